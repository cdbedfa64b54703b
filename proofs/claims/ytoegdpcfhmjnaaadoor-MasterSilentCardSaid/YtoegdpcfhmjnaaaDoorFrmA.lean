/- Frames: frame.Put, frame.Take. -/
import Derived.Test.YtoegdpcfhmjnaaaDoorCrcA
import Derived.Test.YtoegdpcfhmjnaaaDoorFrmP
import Derived.Test.YtoegdpcfhmjnaaaDoorBlU
namespace Go.Proofs.YtoegdpcfhmjnaaaDoor
open Go.RowKit Go.Bl
attribute [local go_sem ↓] Go.wp_at_zero Go.wp_at_succ

theorem nonempty_of {p : ByteArray} (h0 : 0 < p.size) : p.toList.isEmpty = false := by
  cases h : p.toList.isEmpty with
  | false => rfl
  | true =>
    have e : p.toList = [] := List.isEmpty_iff.1 h
    have e2 : (⟨#[]⟩ : ByteArray).toList = [] := by rw [ByteArray.toList_eq]
    have e3 : p = ⟨#[]⟩ := bytes_extB (by rw [e, e2])
    rw [e3] at h0
    exact absurd h0 (by decide)
set_option maxRecDepth 8000 in
set_option maxHeartbeats 2000000 in
theorem framePut_any (w : World) (p : ByteArray) (h0 : 0 < p.size) (h1 : p.size ≤ 8000) : Calls Tryd.prog 38 #[.string p] w fun e w' => e = .returned (.tuple #[.string (Bl (frmL crcU (Lb p))), .int .i64 0]) ∧ Below w.heap.size w w' := by
  obtain ⟨n, hn⟩ : ∃ n, p.size = n := ⟨_, rfl⟩
  have hne := nonempty_of h0
  have hd : decide ((8000 : Int) < (n : Int)) = false := by simp; omega
  have hF : Bl (frmL crcU (Lb p)) = Bl (fixL n) ++ Bl (fixL (crcU (crcU 0 (fixL n)) (Lb p))) ++ p := by
    unfold frmL
    rw [Bl_append, Bl_append, Lb_len, hn]
    rfl
  have HF := Lib.hid hF
  have HN := Lib.hid hn
  have hn2 : n ≤ 8000 := by omega
  have h00 : 0 < n := by omega
  clear hF
  obtain ⟨f, hf⟩ : ∃ f : ByteArray, f = Bl (fixL n) := ⟨_, rfl⟩
  have hfs : f.size = 4 := by rw [hf]; rfl
  have c1 := fun W => fixed_any W n (by omega)
  have hLf : Lb f = fixL n := by rw [hf, Lb_Bl]
  have c2 := fun W => sum_any W f (by omega)
  have c3 := fun W => update_any W (crcU 0 (fixL n)) (crcU_lt _ _) p (by omega)
  have c4 := fun W => fixed_any W (crcU (crcU 0 (fixL n)) (Lb p)) (crcU_lt _ _)
  rw [hLf] at c2
  rw [← hf] at c1
  rw [← hf] at HF
  obtain ⟨g, hg⟩ : ∃ f : ByteArray, f = Bl (fixL (crcU (crcU 0 (fixL n)) (Lb p))) := ⟨_, rfl⟩
  have hgs : g.size = 4 := by rw [hg]; rfl
  rw [← hg] at c4 HF
  obtain ⟨a, ha⟩ : ∃ a, a = crcU 0 (fixL n) := ⟨_, rfl⟩
  rw [← ha] at c2 c3 c4
  obtain ⟨b, hb⟩ : ∃ b, b = crcU a (Lb p) := ⟨_, rfl⟩
  rw [← hb] at c3 c4
  have C1 := Lib.hid c1
  have C2 := Lib.hid c2
  have C3 := Lib.hid c3
  have C4 := Lib.hid c4
  have hs1 : ¬ 9223372036854775807 < f.size + g.size := by omega
  have hs2 : ¬ 9223372036854775807 < (f ++ g).size + p.size := by rw [ByteArray.size_append]; omega
  clear c1 c2 c3 c4 ha hb hf hg hLf hfs hgs
  go_enter Tryd.func38, Tryd.ntmps38
  go_wp2_with fail
  refine (C1.out _).mono ?_
  rintro e w1 ⟨rfl, hB1⟩
  go_wp2_with fail
  refine (C2.out _).mono ?_
  rintro e w2 ⟨rfl, hB2⟩
  go_wp2_with fail
  refine (C3.out _).mono ?_
  rintro e w3 ⟨rfl, hB3⟩
  go_wp2_with fail
  refine (C4.out _).mono ?_
  rintro e w4 ⟨rfl, hB4⟩
  go_wp2_with fail
  go_ret2
  rw [HF.out]
  exact ⟨rfl, ((hB1.trans (hB2.mono hB1.size)).trans (hB3.mono (Nat.le_trans hB1.size hB2.size))).trans (hB4.mono (Nat.le_trans (Nat.le_trans hB1.size hB2.size) hB3.size))⟩
set_option maxRecDepth 8000 in
set_option maxHeartbeats 2000000 in
theorem frameTake_any (w : World) (s : ByteArray) (hs : s.size ≤ 1000000000000) : Calls Tryd.prog 56 #[.string s] w fun e w' => e = .returned (.tuple #[.string (Bl (tkF crcU (Lb s)).1), .string (Bl (tkF crcU (Lb s)).2.1), .int .i64 (tkF crcU (Lb s)).2.2]) ∧ Below w.heap.size w w' := by
  by_cases h8 : s.size < 8
  · have d8 : decide ((s.size : Int) < 8) = true := by simp; omega
    have hR : tkF crcU (Lb s) = ([], [], 3) := by unfold tkF; rw [if_pos (by rw [Lb_len]; exact h8)]
    have HR := Lib.hid hR
    clear hR
    go_enter Tryd.func56, Tryd.ntmps56
    go_wp2_with fail
    go_ret3
    rw [HR.out]
    exact ⟨rfl, Below.refl _ _⟩
  · have d8 : decide ((s.size : Int) < 8) = false := by simp; omega
    obtain ⟨n, hn⟩ : ∃ n, n = unfix ((Lb s).take 4) := ⟨_, rfl⟩
    obtain ⟨c, hc⟩ : ∃ n, n = unfix (((Lb s).drop 4).take 4) := ⟨_, rfl⟩
    have hnb : n < 4294967296 := by rw [hn]; exact unfix_lt _
    have hcb : c < 4294967296 := by rw [hc]; exact unfix_lt _
    obtain ⟨r, hr⟩ : ∃ r : ByteArray, r = Bl ((Lb s).drop 4) := ⟨_, rfl⟩
    obtain ⟨r2, hr2⟩ : ∃ r : ByteArray, r = Bl ((Lb s).drop 8) := ⟨_, rfl⟩
    have hrs : r.size = s.size - 4 := by rw [hr, Bl_size, List.length_drop, Lb_len]
    have hrs2 : r2.size = s.size - 8 := by rw [hr2, Bl_size, List.length_drop, Lb_len]
    have t1 := takeFixed_any w s (by omega) hs
    rw [← hn, ← hr] at t1
    have t2 : ∀ W, Calls Tryd.prog _ #[.string r] W _ := fun W => takeFixed_any W r (by omega) (by omega)
    have e1 : Lb r = (Lb s).drop 4 := by rw [hr, Lb_Bl]
    rw [e1, ← hc, List.drop_drop, ← hr2] at t2
    have HT1 := Lib.hid t1
    have HT2 := Lib.hid t2
    have HR2 := Lib.hid hrs2
    have HN := Lib.hid hn
    have HC := Lib.hid hc
    have HRR := Lib.hid hr2
    have hle : r2.size ≤ s.size := by omega
    clear t1 t2 hrs hrs2 hn hc hr hr2 e1
    go_enter Tryd.func56, Tryd.ntmps56
    obtain ⟨P, hP⟩ : ∃ P : ByteArray, P = r2.extract 0 n := ⟨_, rfl⟩
    obtain ⟨R, hR⟩ : ∃ P : ByteArray, P = r2.extract n r2.size := ⟨_, rfl⟩
    obtain ⟨Q, hQ⟩ : ∃ P : ByteArray, P = s.extract 0 4 := ⟨_, rfl⟩
    have LP : Lb P = ((Lb s).drop 8).take n := by rw [hP, ext_head, Lb_Bl, HRR.out, Lb_Bl]
    have LR : Lb R = ((Lb s).drop 8).drop n := by rw [hR, ext_tail, Lb_Bl, HRR.out, Lb_Bl]
    have LQ : Lb Q = (Lb s).take 4 := by rw [hQ, ext_head, Lb_Bl]
    have HLP := Lib.hid LP
    have HLR := Lib.hid LR
    have HLQ := Lib.hid LQ
    have hPs : P.size ≤ s.size := by rw [← Lb_len, LP]; simp [Lb_len]; omega
    have hQs : Q.size ≤ s.size := by rw [← Lb_len, LQ]; simp [Lb_len]; omega
    have xP := hP.symm
    have xR := hR.symm
    have xQ := hQ.symm
    clear LP LR LQ hP hR hQ
    have HD : Hid (tkF crcU (Lb s) = if n = 0 then ([], [], 2) else if 8000 < n then ([], [], 4) else if r2.size < n then ([], [], 3) else if crcU (crcU 0 (Lb Q)) (Lb P) ≠ c then ([], [], 5) else (Lb P, Lb R, 0)) := Lib.hid (by
      unfold tkF
      rw [if_neg (by rw [Lb_len]; exact h8), ← HN.out, ← HC.out, ← HLQ.out, ← HLP.out, ← HLR.out, HR2.out, Lb_len])
    by_cases n0 : n = 0
    · have dn : ((n : Int) == 0) = true := by rw [beq_iff_eq]; omega
      have HR : Hid (tkF crcU (Lb s) = ([], [], 2)) := Lib.hid (by rw [HD.out, if_pos n0])
      clear n0
      go_wp2_with fail
      refine HT1.out.mono ?_
      rintro e w1 ⟨rfl, hB1⟩
      go_wp2_with fail
      refine (HT2.out w1).mono ?_
      rintro e w2 ⟨rfl, hB2⟩
      go_wp2_with fail
      go_ret3
      rw [HR.out]
      exact ⟨rfl, hB1.trans (hB2.mono hB1.size)⟩
    · have dn : ((n : Int) == 0) = false := by rw [beq_eq_false_iff_ne]; omega
      by_cases nb : 8000 < n
      · have HR : Hid (tkF crcU (Lb s) = ([], [], 4)) := Lib.hid (by rw [HD.out, if_neg n0, if_pos nb])
        go_wp2_with fail
        refine HT1.out.mono ?_
        rintro e w1 ⟨rfl, hB1⟩
        go_wp2_with fail
        refine (HT2.out w1).mono ?_
        rintro e w2 ⟨rfl, hB2⟩
        go_wp2_with fail
        go_ret3
        rw [HR.out]
        exact ⟨rfl, hB1.trans (hB2.mono hB1.size)⟩
      · by_cases nr : r2.size < n
        · have dr : decide (r2.size < n) = true := by simp; omega
          have HR : Hid (tkF crcU (Lb s) = ([], [], 3)) := Lib.hid (by rw [HD.out, if_neg n0, if_neg nb, if_pos nr])
          go_wp2_with fail
          refine HT1.out.mono ?_
          rintro e w1 ⟨rfl, hB1⟩
          go_wp2_with fail
          refine (HT2.out w1).mono ?_
          rintro e w2 ⟨rfl, hB2⟩
          go_wp2_with fail
          go_ret3
          rw [HR.out]
          exact ⟨rfl, hB1.trans (hB2.mono hB1.size)⟩
        · have dr : decide (r2.size < n) = false := by simp; omega
          have c1 := fun W => sum_any W Q (by omega)
          have c2 := fun W => update_any W (crcU 0 (Lb Q)) (crcU_lt _ _) P (by omega)
          obtain ⟨a, ha⟩ : ∃ a, a = crcU 0 (Lb Q) := ⟨_, rfl⟩
          rw [← ha] at c1 c2 HD
          obtain ⟨b, hb⟩ : ∃ b, b = crcU a (Lb P) := ⟨_, rfl⟩
          rw [← hb] at c2 HD
          have C1 := Lib.hid c1
          have C2 := Lib.hid c2
          have hnr2 : n ≤ r2.size := by omega
          clear c1 c2 ha hb nr
          go_wp2_with fail
          refine HT1.out.mono ?_
          rintro e w1 ⟨rfl, hB1⟩
          go_wp2_with fail
          refine (HT2.out w1).mono ?_
          rintro e w2 ⟨rfl, hB2⟩
          go_wp2_with fail
          go_quiet (fail)
          have hB3 : Below w.heap.size w (w2.drewN nq) := (hB1.trans (hB2.mono hB1.size)).trans ⟨rfl, rfl, rfl, Nat.le_refl _, fun _ _ => rfl⟩
          generalize w2.drewN nq = w3 at hB3 ⊢
          by_cases hbc : b = c
          · have HR : Hid (tkF crcU (Lb s) = (Lb P, Lb R, 0)) := Lib.hid (by rw [HD.out, if_neg n0, if_neg nb, if_neg (by omega), if_neg (by rw [hbc]; simp)])
            have db : ((b : Int) != (c : Int)) = false := by simp; omega
            clear hbc n0
            go_wp2_with fail
            refine (C1.out _).mono ?_
            rintro e w4 ⟨rfl, hB4⟩
            go_wp2_with fail
            refine (C2.out _).mono ?_
            rintro e w5 ⟨rfl, hB5⟩
            go_wp2_with fail
            go_ret3
            rw [HR.out]
            exact ⟨rfl, (hB3.trans (hB4.mono hB3.size)).trans (hB5.mono (Nat.le_trans hB3.size hB4.size))⟩
          · have HR : Hid (tkF crcU (Lb s) = ([], [], 5)) := Lib.hid (by rw [HD.out, if_neg n0, if_neg nb, if_neg (by omega), if_pos hbc])
            have db : ((b : Int) != (c : Int)) = true := by simp; omega
            clear hbc n0
            go_wp2_with fail
            refine (C1.out _).mono ?_
            rintro e w4 ⟨rfl, hB4⟩
            go_wp2_with fail
            refine (C2.out _).mono ?_
            rintro e w5 ⟨rfl, hB5⟩
            go_wp2_with fail
            go_ret3
            rw [HR.out]
            exact ⟨rfl, (hB3.trans (hB4.mono hB3.size)).trans (hB5.mono (Nat.le_trans hB3.size hB4.size))⟩
end Go.Proofs.YtoegdpcfhmjnaaaDoor
