/- The document's frames (bucketlineref4): Put, Take, Scan. Under the stated premises on sizes. -/
import Derived.Test.YthdehdlbocgfaaaGreatDoorNumR
import Derived.Test.YthdehdlbocgfaaaGreatDoorCrcR
import Derived.Test.YthdehdlbocgfaaaGreatDoorFrmC
namespace Go.Proofs.YthdehdlbocgfaaaGreatDoor
open Go.RowKit Go.Bl
attribute [local go_sem ↓] Go.wp_at_zero Go.wp_at_succ

theorem fold_lt : ∀ (l : List UInt8) (r : Nat), r < 4294967296 → l.foldl (fun r c => crcS r c.toNat) r < 4294967296
  | [], _, h => h
  | _ :: l, _, h => fold_lt l _ (crcS_lt h (UInt8.toNat_lt _))
theorem crcU_append (n : Nat) (a b : List UInt8) : crcU n (a ++ b) = crcU (crcU n a) b := by
  have h := fold_lt a (4294967295 - n) (by omega)
  unfold crcU
  rw [List.foldl_append]
  congr 2
  omega
set_option maxRecDepth 8000 in
set_option maxHeartbeats 2000000 in
theorem rframePut_any (w : World) (p : ByteArray) (h0 : 0 < p.size) (h1 : p.size ≤ 8000) : Calls Tryz.prog 54 #[.string p] w fun e w' => e = .returned (.tuple #[.string (Bl (frmL crcU (Lb p))), .int .i64 0]) ∧ Below w.heap.size w w' := by
  obtain ⟨n, hn⟩ : ∃ n, p.size = n := ⟨_, rfl⟩
  have hz : ((n : Int) == 0) = false := by rw [beq_eq_false_iff_ne]; omega
  have hd : decide ((8000 : Int) < (n : Int)) = false := by simp; omega
  have hF : Bl (frmL crcU (Lb p)) = Bl (fixL n) ++ Bl (fixL (crcU 0 (Lb (Bl (fixL n) ++ p)))) ++ p := by
    unfold frmL
    rw [Bl_append, Bl_append, Lb_len, hn, Lb_append, crcU_append]
    rfl
  have HF := Lib.hid hF
  have HN := Lib.hid hn
  have hn2 : n ≤ 8000 := by omega
  have h00 : 0 < n := by omega
  clear hF
  obtain ⟨f, hf⟩ : ∃ f : ByteArray, f = Bl (fixL n) := ⟨_, rfl⟩
  have hfs : f.size = 4 := by rw [hf]; rfl
  have c1 := fun W => rfixed_any W n (by omega)
  have hfp : (f ++ p).size ≤ 9000 := by rw [ByteArray.size_append]; omega
  have c2 := fun W => rsum_any W (f ++ p) (by omega)
  rw [← hf] at c1 HF
  obtain ⟨b, hb⟩ : ∃ b, b = crcU 0 (Lb (f ++ p)) := ⟨_, rfl⟩
  have hbb : b < 4294967296 := by rw [hb]; exact crcU_lt _ _
  have c4 := fun W => rfixed_any W b hbb
  rw [← hb] at c2 HF
  obtain ⟨g, hg⟩ : ∃ f : ByteArray, f = Bl (fixL b) := ⟨_, rfl⟩
  have hgs : g.size = 4 := by rw [hg]; rfl
  rw [← hg] at c4 HF
  have C1 := Lib.hid c1
  have C2 := Lib.hid c2
  have C4 := Lib.hid c4
  have hs0 : ¬ 9223372036854775807 < f.size + p.size := by omega
  have hs1 : ¬ 9223372036854775807 < f.size + g.size := by omega
  have hs2 : ¬ 9223372036854775807 < (f ++ g).size + p.size := by rw [ByteArray.size_append]; omega
  clear c1 c2 c4 hb hf hg hfs hgs hfp
  go_enter Tryz.func54, Tryz.ntmps54
  go_wp2_with fail
  refine (C1.out _).mono ?_
  rintro e w1 ⟨rfl, hB1⟩
  go_wp2_with fail
  refine (C2.out _).mono ?_
  rintro e w2 ⟨rfl, rfl⟩
  go_wp2_with fail
  refine (C4.out _).mono ?_
  rintro e w4 ⟨rfl, hB4⟩
  go_wp2_with fail
  go_ret2
  rw [HF.out]
  exact ⟨rfl, hB1.trans (hB4.mono hB1.size)⟩
set_option maxRecDepth 8000 in
set_option maxHeartbeats 2000000 in
theorem rframeTake_any (w : World) (s : ByteArray) (hs : s.size ≤ 400000000000) : Calls Tryz.prog 40 #[.string s] w fun e w' => e = .returned (.tuple #[.string (Bl (tkF crcU (Lb s)).1), .string (Bl (tkF crcU (Lb s)).2.1), .int .i64 (tkF crcU (Lb s)).2.2]) ∧ Below w.heap.size w w' := by
  by_cases h8 : s.size < 8
  · have d8 : decide ((s.size : Int) < 8) = true := by simp; omega
    have hR : tkF crcU (Lb s) = ([], [], 3) := by unfold tkF; rw [if_pos (by rw [Lb_len]; exact h8)]
    have HR := Lib.hid hR
    clear hR
    go_enter Tryz.func40, Tryz.ntmps40
    go_wp2_with fail
    go_ret3
    rw [HR.out]
    exact ⟨rfl, Below.refl _ _⟩
  · have d8 : decide ((s.size : Int) < 8) = false := by simp; omega
    obtain ⟨n, hn⟩ : ∃ n, n = unfix ((Lb s).take 4) := ⟨_, rfl⟩
    obtain ⟨c, hc⟩ : ∃ n, n = unfix (((Lb s).drop 4).take 4) := ⟨_, rfl⟩
    have hnb : n < 4294967296 := by rw [hn]; exact unfix_lt _
    have hcb : c < 4294967296 := by rw [hc]; exact unfix_lt _
    obtain ⟨r, hr⟩ : ∃ r : ByteArray, r = Bl ((Lb s).drop 4) := ⟨_, rfl⟩
    obtain ⟨r2, hr2⟩ : ∃ r : ByteArray, r = Bl ((Lb s).drop 8) := ⟨_, rfl⟩
    have hrs : r.size = s.size - 4 := by rw [hr, Bl_size, List.length_drop, Lb_len]
    have hrs2 : r2.size = s.size - 8 := by rw [hr2, Bl_size, List.length_drop, Lb_len]
    have t1 := rtakeFixed_any w s (by omega) (by omega)
    rw [← hn, ← hr] at t1
    have t2 : ∀ W, Calls Tryz.prog _ #[.string r] W _ := fun W => rtakeFixed_any W r (by omega) (by omega)
    have e1 : Lb r = (Lb s).drop 4 := by rw [hr, Lb_Bl]
    rw [e1, ← hc, List.drop_drop, ← hr2] at t2
    have HT1 := Lib.hid t1
    have HT2 := Lib.hid t2
    have HR2 := Lib.hid hrs2
    have HN := Lib.hid hn
    have HC := Lib.hid hc
    have HRR := Lib.hid hr2
    have hle : r2.size ≤ s.size := by omega
    clear t1 t2 hrs hrs2 hn hc hr hr2 e1
    go_enter Tryz.func40, Tryz.ntmps40
    obtain ⟨P, hP⟩ : ∃ P : ByteArray, P = r2.extract 0 n := ⟨_, rfl⟩
    obtain ⟨R, hR⟩ : ∃ P : ByteArray, P = r2.extract n r2.size := ⟨_, rfl⟩
    obtain ⟨Q, hQ⟩ : ∃ P : ByteArray, P = s.extract 0 4 := ⟨_, rfl⟩
    have LP : Lb P = ((Lb s).drop 8).take n := by rw [hP, ext_head, Lb_Bl, HRR.out, Lb_Bl]
    have LR : Lb R = ((Lb s).drop 8).drop n := by rw [hR, ext_tail, Lb_Bl, HRR.out, Lb_Bl]
    have LQ : Lb Q = (Lb s).take 4 := by rw [hQ, ext_head, Lb_Bl]
    have HLP := Lib.hid LP
    have HLR := Lib.hid LR
    have HLQ := Lib.hid LQ
    have hPs : P.size ≤ s.size := by rw [← Lb_len, LP]; simp [Lb_len]; omega
    have hQs : Q.size ≤ s.size := by rw [← Lb_len, LQ]; simp [Lb_len]; omega
    have xP := hP.symm
    have xR := hR.symm
    have xQ := hQ.symm
    clear LP LR LQ hP hR hQ
    have HD : Hid (tkF crcU (Lb s) = if n = 0 then ([], [], 2) else if 8000 < n then ([], [], 4) else if r2.size < n then ([], [], 3) else if crcU (crcU 0 (Lb Q)) (Lb P) ≠ c then ([], [], 5) else (Lb P, Lb R, 0)) := Lib.hid (by
      unfold tkF
      rw [if_neg (by rw [Lb_len]; exact h8), ← HN.out, ← HC.out, ← HLQ.out, ← HLP.out, ← HLR.out, HR2.out, Lb_len])
    by_cases n0 : n = 0
    · have dn : ((n : Int) == 0) = true := by rw [beq_iff_eq]; omega
      have HR : Hid (tkF crcU (Lb s) = ([], [], 2)) := Lib.hid (by rw [HD.out, if_pos n0])
      clear n0
      go_wp2_with fail
      refine HT1.out.mono ?_
      rintro e w1 ⟨rfl, hB1⟩
      go_wp2_with fail
      refine (HT2.out w1).mono ?_
      rintro e w2 ⟨rfl, hB2⟩
      go_wp2_with fail
      go_ret3
      rw [HR.out]
      exact ⟨rfl, hB1.trans (hB2.mono hB1.size)⟩
    · have dn : ((n : Int) == 0) = false := by rw [beq_eq_false_iff_ne]; omega
      by_cases nb : 8000 < n
      · have HR : Hid (tkF crcU (Lb s) = ([], [], 4)) := Lib.hid (by rw [HD.out, if_neg n0, if_pos nb])
        go_wp2_with fail
        refine HT1.out.mono ?_
        rintro e w1 ⟨rfl, hB1⟩
        go_wp2_with fail
        refine (HT2.out w1).mono ?_
        rintro e w2 ⟨rfl, hB2⟩
        go_wp2_with fail
        go_ret3
        rw [HR.out]
        exact ⟨rfl, hB1.trans (hB2.mono hB1.size)⟩
      · by_cases nr : r2.size < n
        · have dr : decide (r2.size < n) = true := by simp; omega
          have HR : Hid (tkF crcU (Lb s) = ([], [], 3)) := Lib.hid (by rw [HD.out, if_neg n0, if_neg nb, if_pos nr])
          go_wp2_with fail
          refine HT1.out.mono ?_
          rintro e w1 ⟨rfl, hB1⟩
          go_wp2_with fail
          refine (HT2.out w1).mono ?_
          rintro e w2 ⟨rfl, hB2⟩
          go_wp2_with fail
          go_ret3
          rw [HR.out]
          exact ⟨rfl, hB1.trans (hB2.mono hB1.size)⟩
        · have dr : decide (r2.size < n) = false := by simp; omega
          have c1 := fun W => rsum_any W (Q ++ P) (by rw [ByteArray.size_append]; omega)
          have hqp : ¬ 9223372036854775807 < Q.size + P.size := by omega
          rw [Lb_append, crcU_append] at c1
          obtain ⟨b, hb⟩ : ∃ b, b = crcU (crcU 0 (Lb Q)) (Lb P) := ⟨_, rfl⟩
          rw [← hb] at c1 HD
          have C1 := Lib.hid c1
          have hnr2 : n ≤ r2.size := by omega
          clear c1 hb nr
          go_wp2_with fail
          refine HT1.out.mono ?_
          rintro e w1 ⟨rfl, hB1⟩
          go_wp2_with fail
          refine (HT2.out w1).mono ?_
          rintro e w2 ⟨rfl, hB2⟩
          have hB3 := hB1.trans (hB2.mono hB1.size)
          by_cases hbc : b = c
          · have HR : Hid (tkF crcU (Lb s) = (Lb P, Lb R, 0)) := Lib.hid (by rw [HD.out, if_neg n0, if_neg nb, if_neg (by omega), if_neg (by rw [hbc]; simp)])
            have db : ((b : Int) != (c : Int)) = false := by simp; omega
            clear hbc n0
            go_wp2_with fail
            refine (C1.out _).mono ?_
            rintro e w4 ⟨rfl, rfl⟩
            go_wp2_with fail
            go_quiet (fail)
            go_wp2_with fail
            go_ret3
            rw [HR.out]
            exact ⟨rfl, hB3.trans ⟨rfl, rfl, rfl, Nat.le_refl _, fun _ _ => rfl⟩⟩
          · have HR : Hid (tkF crcU (Lb s) = ([], [], 5)) := Lib.hid (by rw [HD.out, if_neg n0, if_neg nb, if_neg (by omega), if_pos hbc])
            have db : ((b : Int) != (c : Int)) = true := by simp; omega
            clear hbc n0
            go_wp2_with fail
            refine (C1.out _).mono ?_
            rintro e w4 ⟨rfl, rfl⟩
            go_wp2_with fail
            go_ret3
            rw [HR.out]
            exact ⟨rfl, hB3⟩
theorem elStrR : El Tryz.prog 55 9 1 16 strF := ⟨Tryz.underlying55, ⟨_, infoStrF, rfl⟩, by decide, by decide, fun _ => rfl, fun x u h => by simp [strF] at h; subst h; rfl⟩
def strSize : Value → Nat
  | .string s => s.size
  | _ => 0
set_option maxRecDepth 8000 in
set_option maxHeartbeats 2000000 in
theorem rscan_any (w : World) (s : ByteArray) (hs : s.size ≤ 1073741824) : Calls Tryz.prog 68 #[.string s] w fun e w' => ∃ v, e = .returned (.tuple #[v, .int .i64 (s.size - (scanS crcU (Lb s)).2.length : Nat)]) ∧ Sl w' (fun k => w.heap.size ≤ k) 1 strF v ((scanS crcU (Lb s)).1.map Bl) ∧ Below w.heap.size w w' := by
  go_enter Tryz.func68, Tryz.ntmps68
  go_wp2_with fail
  go_loopw [4, 5] (fun v t wr => ∃ (done : List ByteArray) (L : ByteArray), Hid (scanS crcU (Lb s) = (done.map Lb ++ (scanS crcU (Lb L)).1, (scanS crcU (Lb L)).2)) ∧ done.length * 9 + L.size ≤ s.size ∧ t = .string L ∧ Go.Bl.Own wr w.heap.size 9 1 strF v done ∧ Below w.heap.size w wr) (fun _ t _ => strSize t)
  case atStart => exact ⟨[], s, Lib.hid rfl, by simp, rfl, Go.Bl.Own.nil_ _ _ _ _ _, Below.refl _ _⟩
  case round =>
    obtain ⟨done, L, hS, hL, rfl, hO, hB⟩ := hrel
    have hc := rframeTake_any wr L (by omega)
    have HB := Lib.hid hB
    have HO := Lib.hid hO
    go_wp2_with fail
    refine hc.mono ?_
    rintro e w1 ⟨rfl, hB1⟩
    have hB2 := hB.trans (hB1.mono hB.size)
    have hO1 := hO.fresh hB1
    by_cases e0 : (tkF crcU (Lb L)).2.2 = 0
    · have hl := tkF_len crcU (tkF_eta crcU e0)
      have hc2 := scanS_cons crcU e0
      obtain ⟨P, hP⟩ : ∃ P, Bl (tkF crcU (Lb L)).1 = P := ⟨_, rfl⟩
      obtain ⟨R, hR⟩ : ∃ R, Bl (tkF crcU (Lb L)).2.1 = R := ⟨_, rfl⟩
      have eP : (tkF crcU (Lb L)).1 = Lb P := by rw [← hP, Lb_Bl]
      have eR : (tkF crcU (Lb L)).2.1 = Lb R := by rw [← hR, Lb_Bl]
      rw [eP, eR] at hc2 hl
      rw [Lb_len, Lb_len, Lb_len] at hl
      obtain ⟨hl1, hl2, hl3⟩ := hl
      have HC2 : Hid (scanS crcU (Lb s) = ((done ++ [P]).map Lb ++ (scanS crcU (Lb R)).1, (scanS crcU (Lb R)).2)) := Lib.hid (by rw [hS.out, hc2, List.map_append]; simp)
      rw [hP, hR, e0]
      clear hc2 eP eR hP hR e0 hB hB1 hO hS HB HO hc
      have HB2 := Lib.hid hB2
      have HO1 := Lib.hid hO1
      go_wp2_with (at_builtin; refine elStrR.append _ (by rfl) _ _ rfl w.heap.size _ _ rfl (HO1.out.fresh ((Below.refl _ _).alloc (Nat.le_refl _) _)) _ _ [P] rfl (Sl.single (heap_alloc_new _ _) rfl) ?_ ?_ ?_; (simp; omega); (have := HB2.out.size; simp; omega); intro v' w4 hown' hgrow hat; have HO2 := Lib.hid hown'; clear hown')
      go_roundw
      case rel => exact ⟨done ++ [P], R, HC2, by rw [List.length_append, List.length_singleton]; omega, rfl, HO2.out, (HB2.out.alloc HB2.out.size _).grown hgrow (by have := HB2.out.size; simp; omega) (fun q e => (HO1.out.lt q e).1)⟩
      case measure => show R.size < L.size; omega
    · have hc2 := scanS_nil crcU e0
      have d0 : ((tkF crcU (Lb L)).2.2 != 0) = true := by simpa using e0
      have HR : Hid (scanS crcU (Lb s) = (done.map Lb, Lb L)) := Lib.hid (by rw [hS.out, hc2]; simp)
      clear hc2 e0 hS
      have hsub : ((s.size : Int) - (L.size : Int)) = ((s.size - L.size : Nat) : Int) := by omega
      go_wp2_with fail
      go_ret2
      rw [HR.out]
      exact ⟨_, rfl, by rw [List.map_map]; rw [show (Bl ∘ Lb : ByteArray → ByteArray) = id from rfl, List.map_id]; exact (hO1.sl elStrR.len).mono (fun b _ e => (hO1.lt b e).1), hB2⟩
end Go.Proofs.YthdehdlbocgfaaaGreatDoor
