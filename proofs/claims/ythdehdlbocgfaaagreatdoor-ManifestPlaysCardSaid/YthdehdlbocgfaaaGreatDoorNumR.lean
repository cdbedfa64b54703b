/- The document's numbers as bytes (bucketlineref2): Put, Take, Fixed, TakeFixed. Under the stated premises on sizes. -/
import Derived.Test.YthdehdlbocgfaaaGreatDoorNumC
namespace Go.Proofs.YthdehdlbocgfaaaGreatDoor
open Go.RowKit Go.Bl
attribute [local go_sem ↓] Go.wp_at_zero Go.wp_at_succ

set_option maxRecDepth 8000 in
set_option maxHeartbeats 2000000 in
theorem rput_any (w : World) (n : Int) (N : Nat) (hN : gmax 0 (gmin n 1099511627776) = (N : Int)) : Calls Tryz.prog 55 #[.int .i64 n] w fun e w' => e = .returned (.string (putB N)) ∧ Below w.heap.size w w' := by
  have hNb : N ≤ 1099511627776 := by unfold gmax gmin at hN; omega
  have hmx := @run_gmax Tryz.prog
  have hmn := @run_gmin Tryz.prog
  have HP := Lib.hid (putL_len 5 N (by omega))
  go_enter Tryz.func55, Tryz.ntmps55
  go_wp2_with fail
  go_loopw [0, 3] (fun n v wr => ∃ (k : Nat) (done : List Nat), Hid (putL N = done ++ putL k) ∧ k ≤ 1099511627776 ∧ done.length ≤ 6 ∧ n = .int .i64 k ∧ Go.Bl.Own wr w.heap.size 5 1 u8c v done ∧ Below w.heap.size w wr) (fun n _ _ => (intOf n).toNat)
  case atStart => exact ⟨N, [], Lib.hid rfl, hNb, Nat.zero_le _, rfl, Go.Bl.Own.nil_ _ _ _ _ _, Below.refl _ _⟩
  case round =>
    obtain ⟨k, done, hp, hkb, hdl, rfl, hO, hB⟩ := hrel
    by_cases h128 : k < 128
    · have d1 : decide ((128 : Int) ≤ (k : Int)) = false := by simp; omega
      have hpk : Hid (putL N = done ++ [k]) := Lib.hid (by rw [hp.out, putL_small h128])
      go_wp2_with (at_builtin; refine elU8.append _ (by rfl) _ _ rfl w.heap.size _ _ rfl (hO.fresh ((Below.refl _ _).alloc (Nat.le_refl _) _)) _ _ [k] rfl (Sl.single (heap_alloc_new _ _) rfl) ?_ ?_ ?_; (simp; omega); (have := hB.size; simp; omega); intro v' w4 hown' hgrow hat; have HO := Lib.hid hown'; clear hown'; go_loud (have hstr := Sl.str (HO.out.sl elU8.len) (by simp) (fun x hx => putL_lt (N + 1) N (by omega) x (by rw [hpk.out]; exact hx))))
      go_ret
      rw [← hpk.out] at *
      exact ⟨rfl, (hB.alloc hB.size _).grown hgrow (by have := hB.size; simp; omega) (fun q e => (hO.lt q e).1)⟩
    · have d1 : decide ((128 : Int) ≤ (k : Int)) = true := by simp; omega
      obtain ⟨x, hx⟩ : ∃ x, x = k % 128 + 128 := ⟨_, rfl⟩
      have hxx : (k : Int) % 128 + 128 = (x : Int) := by omega
      have hx2 : x < 256 := by omega
      have HX := Lib.hid hx
      clear hx
      go_wp2_with (at_builtin; refine elU8.append _ (by rfl) _ _ rfl w.heap.size _ _ rfl (hO.fresh ((Below.refl _ _).alloc (Nat.le_refl _) _)) _ _ [x] rfl (Sl.single (heap_alloc_new _ _) rfl) ?_ ?_ ?_; (simp; omega); (have := hB.size; simp; omega); intro v' w4 hown' hgrow hat; have HO := Lib.hid hown'; clear hown')
      go_roundw
      case rel => exact ⟨k / 128, done ++ [x], Lib.hid (by rw [hp.out, putL_big h128, HX.out]; simp), by omega, by have := HP.out; rw [hp.out, putL_big h128] at this; simp at this ⊢; omega, rfl, HO.out, (hB.alloc hB.size _).grown hgrow (by have := hB.size; simp; omega) (fun q e => (hO.lt q e).1)⟩
      case measure => simp [intOf]; omega
set_option maxRecDepth 8000 in
set_option maxHeartbeats 2000000 in
theorem rfixed_any (w : World) (n : Nat) (hn : n < 4294967296) : Calls Tryz.prog 74 #[.int .u32 n] w fun e w' => e = .returned (.string (Bl (fixL n))) ∧ Below w.heap.size w w' := by
  have hf := fixL_toNat n hn
  obtain ⟨x0, h0⟩ : ∃ x, x = n / 16777216 := ⟨_, rfl⟩
  obtain ⟨x1, h1⟩ : ∃ x, x = n / 65536 % 256 := ⟨_, rfl⟩
  obtain ⟨x2, h2⟩ : ∃ x, x = n / 256 % 256 := ⟨_, rfl⟩
  obtain ⟨x3, h3⟩ : ∃ x, x = n % 256 := ⟨_, rfl⟩
  have e0 : (n : Int) / 16777216 = (x0 : Int) := by omega
  have e1 : (n : Int) / 65536 % 256 = (x1 : Int) := by omega
  have e2 : (n : Int) / 256 % 256 = (x2 : Int) := by omega
  have e3 : (n : Int) % 256 = (x3 : Int) := by omega
  rw [← h0, ← h1, ← h2, ← h3] at hf
  have hconv := from_bytes (P := Tryz.prog) Tryz.underlying86 Tryz.underlying5 Tryz.underlying9 (w.alloc (.cells #[.int .u8 x0, .int .u8 x1, .int .u8 x2, .int .u8 x3] 5)) w.heap.size 0 4 4 (Bl (fixL n)) rfl (fun j u hu => by
    have hu' : (fixL n)[j]? = some u := by
      have : (Bl (fixL n)).data[j]? = (fixL n)[j]? := by unfold Bl; simp
      rw [← this]; exact hu
    have hm : ((fixL n).map UInt8.toNat)[j]? = some u.toNat := by rw [List.getElem?_map, hu']; rfl
    rw [hf] at hm
    rw [cell_of_row _ w.heap.size (0 + j) _ _ _ (heap_alloc_new w (.cells #[.int .u8 x0, .int .u8 x1, .int .u8 x2, .int .u8 x3] 5)), Nat.zero_add]
    match j, hm with
    | 0, hm => simp at hm; simp [hm]
    | 1, hm => simp at hm; simp [hm]
    | 2, hm => simp at hm; simp [hm]
    | 3, hm => simp at hm; simp [hm]
    | j + 4, hm => simp at hm)
  clear hf h0 h1 h2 h3
  go_enter Tryz.func74, Tryz.ntmps74
  go_wp2_with fail
  go_ret
  exact ⟨rfl, (Below.refl _ _).alloc (Nat.le_refl _) _⟩
set_option maxRecDepth 8000 in
set_option maxHeartbeats 2000000 in
theorem rtakeFixed_any (w : World) (s : ByteArray) (h4 : 4 ≤ s.size) (hs : s.size ≤ 1000000000000) : Calls Tryz.prog 64 #[.string s] w fun e w' => e = .returned (.tuple #[.int .u32 (unfix ((Lb s).take 4)), .string (Bl ((Lb s).drop 4)), .int .i64 0]) ∧ Below w.heap.size w w' := by
  have he := ext_tail s 4
  have ha0 := unfix_lt ((Lb s).take 4)
  have d1 : decide ((s.size : Int) < 4) = false := by simp; omega
  go_enter Tryz.func64, Tryz.ntmps64
  go_wp2_with fail
  go_loopw [5, 6] (fun n i wr => ∃ (k a : Nat), k ≤ 4 ∧ a < 4294967296 ∧ n = .int .u32 a ∧ i = .int .i64 k ∧ wr = w ∧ Hid (a = unfix ((Lb s).take k))) (fun _ i _ => 4 - (intOf i).toNat)
  case atStart => exact ⟨0, 0, by omega, by omega, rfl, rfl, rfl, Lib.hid rfl⟩
  case round =>
    obtain ⟨k, a, hk4, ha, rfl, rfl, rfl, hT⟩ := hrel
    by_cases hlt : k < 4
    · have d0 : decide ((k : Int) < 4) = true := by simp; omega
      have hks : k < s.size := by omega
      have hkl : k < (Lb s).length := by rw [Lb_len]; omega
      obtain ⟨c, hc⟩ : ∃ c, c = (s[k]'hks).toNat := ⟨_, rfl⟩
      have hcs : ((s[k]'hks).toNat : Int) = (c : Int) := by rw [hc]
      have hc256 : c < 256 := by rw [hc]; exact UInt8.toNat_lt _
      obtain ⟨b, hb⟩ : ∃ b, b = (a * 256 + c) % 4294967296 := ⟨_, rfl⟩
      have hor := or32 a c hc256
      rw [← hb] at hor
      have hb2 : b < 4294967296 := by omega
      have HB : Hid (b = unfix ((Lb s).take (k + 1))) := Lib.hid (by
        rw [hb, hT.out, hc, List.take_succ_eq_append_getElem hkl]
        unfold unfix
        rw [List.foldl_append]
        rfl)
      clear hb hc
      go_wp2_with fail
      go_roundw
      case rel => exact ⟨k + 1, b, by omega, hb2, rfl, by go_num, trivial, HB⟩
      case measure => simp [intOf]; omega
    · obtain rfl : k = 4 := by omega
      go_wp2_with fail
      go_quiet (fail)
      go_wp2_with fail
      go_ret3
      rw [hT.out]
      exact ⟨rfl, ⟨rfl, rfl, rfl, Nat.le_refl _, fun _ _ => rfl⟩⟩
set_option maxRecDepth 8000 in
set_option maxHeartbeats 2000000 in
theorem rtake_any (w : World) (s : ByteArray) (hs : s.size ≤ 1000000000000) : Calls Tryz.prog 66 #[.string s] w fun e w' => e = .returned (.tuple #[.int .i64 (tkN (Lb s)).1, .string (Bl (tkN (Lb s)).2.1), .int .i64 (tkN (Lb s)).2.2]) ∧ Below w.heap.size w w' := by
  go_enter Tryz.func66, Tryz.ntmps66
  go_wp2_with fail
  go_loopw [5, 6, 7] (fun n u i wr => ∃ (k a : Nat), k ≤ s.size ∧ k ≤ 6 ∧ a < 128 ^ k ∧ n = .int .i64 a ∧ u = .int .i64 ((128 ^ k : Nat) : Int) ∧ i = .int .i64 k ∧ wr = w ∧ Hid (tkL 0 0 (Lb s) = tkL k a ((Lb s).drop k))) (fun _ _ i _ => s.size - (intOf i).toNat)
  case atStart => exact ⟨0, 0, Nat.zero_le _, by omega, by decide, rfl, rfl, rfl, rfl, Lib.hid rfl⟩
  case round =>
    obtain ⟨k, a, hks, hk6, ha, rfl, rfl, rfl, rfl, hT⟩ := hrel
    by_cases hlt : k < s.size
    · have d0 : decide ((k : Int) < (s.size : Int)) = true := by simp; omega
      obtain ⟨c, hc⟩ : ∃ c, c = (s[k]'hlt).toNat := ⟨_, rfl⟩
      have hcs : ((s[k]'hlt).toNat : Int) = (c : Int) := by rw [hc]
      have hc256 : c < 256 := by rw [hc]; exact UInt8.toNat_lt _
      have hdrop : (Lb s).drop k = (s[k]'hlt) :: (Lb s).drop (k + 1) := List.drop_eq_getElem_cons (by rw [Lb_len]; exact hlt)
      have HC := Lib.hid hc
      clear hc
      by_cases h6 : k = 6
      · subst h6
        have hR : Hid (tkN (Lb s) = (0, [], 2)) := Lib.hid (by
          unfold tkN
          rw [hT.out, hdrop]
          unfold tkL
          rw [if_pos rfl]
          rfl)
        clear hdrop
        obtain ⟨u6, hu6⟩ : ∃ u6, u6 = 128 ^ 6 := ⟨_, rfl⟩
        rw [← hu6]
        clear hu6 ha
        go_wp2_with fail
        go_ret3
        rw [hR.out]
        exact ⟨rfl, Below.refl _ _⟩
      · have k6 : ((k : Int) == 6) = false := by rw [beq_eq_false_iff_ne]; omega
        have hp6 := pow_le6 (k := k) (by omega)
        obtain ⟨x, hx⟩ : ∃ x, x = c % 128 := ⟨_, rfl⟩
        have hxi : (c : Int) % 128 = (x : Int) := by omega
        have hx1 : x ≤ 127 := by omega
        have hm : x * 128 ^ k ≤ 127 * 128 ^ k := Nat.mul_le_mul_right _ hx1
        obtain ⟨u, hu⟩ : ∃ u, u = 128 ^ k := ⟨_, rfl⟩
        obtain ⟨y, hy⟩ : ∃ y, y = x * 128 ^ k := ⟨_, rfl⟩
        obtain ⟨z, hz⟩ : ∃ z, z = a + y := ⟨_, rfl⟩
        have hyb : y < 9000000000000 := by omega
        have hab : a < 9000000000000 := by omega
        have hub : u < 9000000000000 := by omega
        have hzb2 : z < 9000000000000 := by omega
        have hzb : z < 128 ^ (k + 1) := by rw [Nat.pow_succ]; omega
        have hmul : (x : Int) * (u : Int) = (y : Int) := by rw [hy, hu]; simp
        have hzi : (a : Int) + (y : Int) = (z : Int) := by omega
        have hu2 : u * 128 = 128 ^ (k + 1) := by rw [hu, Nat.pow_succ]
        have HU2 := Lib.hid hu2
        have HZB := Lib.hid hzb
        have HTL : Hid (tkL 0 0 (Lb s) = if 128 ≤ c then tkL (k + 1) z ((Lb s).drop (k + 1)) else if c = 0 ∧ 0 < k then (0, k, 2) else if 1099511627776 < z then (0, k, 4) else (z, k + 1, 0)) := Lib.hid (by
          rw [hT.out, hdrop]
          conv => lhs; unfold tkL
          rw [if_neg h6, ← HC.out, ← hx, ← hy, ← hz])
        rw [← hu]
        clear hdrop hT hm hp6 hx hy hz hzb ha hu hu2
        by_cases hc1 : 128 ≤ c
        · have hd1 : decide ((128 : Int) ≤ (c : Int)) = true := by simp; omega
          go_wp2_with fail
          go_roundw
          case rel => exact ⟨k + 1, z, by omega, by omega, HZB.out, rfl, by rw [← HU2.out]; go_num, by go_num, trivial, Lib.hid (by rw [HTL.out, if_pos hc1])⟩
          case measure => simp [intOf]; omega
        · have hd1 : decide ((128 : Int) ≤ (c : Int)) = false := by simp; omega
          by_cases hc0 : c = 0 ∧ 0 < k
          · have e1 : ((c : Int) == 0) = true := by rw [beq_iff_eq]; omega
            have e2 : decide (0 < k) = true := by simp; omega
            have hR : Hid (tkN (Lb s) = (0, [], 2)) := Lib.hid (by unfold tkN; rw [HTL.out, if_neg hc1, if_pos hc0]; rfl)
            clear hc0
            go_wp2_with fail
            go_ret3
            rw [hR.out]
            exact ⟨rfl, Below.refl _ _⟩
          · by_cases hbig : 1099511627776 < z
            · have hR : Hid (tkN (Lb s) = (0, [], 4)) := Lib.hid (by unfold tkN; rw [HTL.out, if_neg hc1, if_neg hc0, if_pos hbig]; rfl)
              have e3 : decide ((1099511627776 : Int) < (z : Int)) = true := by simp; omega
              by_cases hcz : 0 < k
              · have e1 : ((c : Int) == 0) = false := by rw [beq_eq_false_iff_ne]; omega
                have e2 : decide (0 < k) = true := by simp; omega
                go_wp2_with fail
                go_ret3
                rw [hR.out]
                exact ⟨rfl, Below.refl _ _⟩
              · have e2 : decide (0 < k) = false := by simp; omega
                go_wp2_with fail
                go_ret3
                rw [hR.out]
                exact ⟨rfl, Below.refl _ _⟩
            · have hR : Hid (tkN (Lb s) = ((z : Int), (Lb s).drop (k + 1), 0)) := Lib.hid (by unfold tkN; rw [HTL.out, if_neg hc1, if_neg hc0, if_neg hbig]; rfl)
              have he := ext_tail s (k + 1)
              have e3 : decide ((1099511627776 : Int) < (z : Int)) = false := by simp; omega
              by_cases hcz : 0 < k
              · have e1 : ((c : Int) == 0) = false := by rw [beq_eq_false_iff_ne]; omega
                have e2 : decide (0 < k) = true := by simp; omega
                go_wp2_with fail
                go_quiet (fail)
                go_wp2_with fail
                go_ret3
                rw [hR.out]
                exact ⟨rfl, ⟨rfl, rfl, rfl, Nat.le_refl _, fun _ _ => rfl⟩⟩
              · have e2 : decide (0 < k) = false := by simp; omega
                go_wp2_with fail
                go_quiet (fail)
                go_wp2_with fail
                go_ret3
                rw [hR.out]
                exact ⟨rfl, ⟨rfl, rfl, rfl, Nat.le_refl _, fun _ _ => rfl⟩⟩
    · have d0 : decide ((k : Int) < (s.size : Int)) = false := by simp; omega
      have hR : Hid (tkN (Lb s) = (0, [], 3)) := Lib.hid (by
        unfold tkN
        rw [hT.out, List.drop_of_length_le (by rw [Lb_len]; omega)]
        unfold tkL
        rfl)
      obtain ⟨u, hu⟩ : ∃ u, u = 128 ^ k := ⟨_, rfl⟩
      rw [← hu]
      clear hu ha
      go_wp2_with fail
      go_ret3
      rw [hR.out]
      exact ⟨rfl, Below.refl _ _⟩
end Go.Proofs.YthdehdlbocgfaaaGreatDoor
