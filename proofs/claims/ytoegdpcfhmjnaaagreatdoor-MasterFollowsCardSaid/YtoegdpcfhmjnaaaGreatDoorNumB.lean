/- Numbers as bytes: num.Take. -/
import Derived.Test.YtoegdpcfhmjnaaaGreatDoorNumA
import Derived.BigQuiet
namespace Go.Proofs.YtoegdpcfhmjnaaaGreatDoor
open Go.RowKit Go.Bl
attribute [local go_sem ↓] Go.wp_at_zero Go.wp_at_succ

theorem ofInt64 (a : Nat) (ha : a < 9223372036854775808) : (BitVec.ofInt 64 (a : Int)).toNat = a := by
  rw [BitVec.ofInt_natCast, BitVec.toNat_ofNat]; exact Nat.mod_eq_of_lt (by omega)
theorem or64 (a b : Nat) (ha : a < 9223372036854775808) (hb : b < 9223372036854775808) : bits .or .i64 (a : Int) (b : Int) = ((a ||| b : Nat) : Int) := by
  have hx : a ||| b < 2 ^ 63 := Nat.or_lt_two_pow (by omega) (by omega)
  show IntKind.i64.wrap ((BitVec.ofInt 64 (a : Int) ||| BitVec.ofInt 64 (b : Int)).toNat : Int) = _
  rw [BitVec.toNat_or, ofInt64 a ha, ofInt64 b hb, IntKind.wrap_i64]
  omega
set_option maxRecDepth 8000 in
theorem and127 (a : Nat) (h : a < 256) : bits .and .u8 (a : Int) 127 = ((a % 128 : Nat) : Int) := by
  have := Go.u8_and_nat a 127 h (by decide)
  rw [show ((127 : Nat) : Int) = 127 from rfl] at this
  rw [this]
  have h2 : ∀ a < 256, a &&& 127 = a % 128 := by decide
  rw [h2 a h]
set_option maxRecDepth 8000 in
theorem and128 (a : Nat) (h : a < 256) : bits .and .u8 (a : Int) 128 = if 128 ≤ a then 128 else 0 := by
  have := Go.u8_and_nat a 128 h (by decide)
  rw [show ((128 : Nat) : Int) = 128 from rfl] at this
  rw [this]
  have h2 : ∀ a < 256, a &&& 128 = if 128 ≤ a then 128 else 0 := by decide
  rw [h2 a h]
  split <;> rfl
theorem pow128 (k : Nat) : 128 ^ k = 2 ^ (7 * k) := by rw [Nat.pow_mul]
theorem or_add (a x k : Nat) (ha : a < 128 ^ k) : a ||| x * 128 ^ k = a + x * 128 ^ k := by
  rw [pow128] at ha ⊢
  have := Nat.two_pow_add_eq_or_of_lt ha x
  rw [Nat.or_comm, Nat.mul_comm x, ← this, Nat.add_comm]
theorem pow_le6 {k : Nat} (h : k < 6) : 128 ^ k ≤ 34359738368 := by
  have : 128 ^ k ≤ 128 ^ 5 := Nat.pow_le_pow_right (by decide) (by omega)
  exact this
/-- A number taken off the front: the number, what is behind, the error. -/
def tkN (s : List UInt8) : Int × List UInt8 × Int := ((tkL 0 0 s).1, if (tkL 0 0 s).2.2 = 0 then s.drop (tkL 0 0 s).2.1 else [], (tkL 0 0 s).2.2)
set_option maxRecDepth 8000 in
set_option maxHeartbeats 2000000 in
theorem take_any (w : World) (s : ByteArray) (hs : s.size ≤ 1000000000000) : Calls Tryz.prog 67 #[.string s] w fun e w' => e = .returned (.tuple #[.int .i64 (tkN (Lb s)).1, .string (Bl (tkN (Lb s)).2.1), .int .i64 (tkN (Lb s)).2.2]) ∧ Below w.heap.size w w' := by
  obtain ⟨cap, w1, hconv, hcap, hsz, hk, hbytes, hfz⟩ := to_bytes (P := Tryz.prog) Tryz.underlying9 Tryz.underlying182 Tryz.underlying5 w s
  have hB1 : Below w.heap.size w w1 := hk.below (Nat.le_refl _) (fun _ h => h.elim)
  have HZ := Lib.hid hsz
  clear hsz hk
  go_enter Tryz.func67, Tryz.ntmps67
  go_wp2_with fail
  go_loopw [5, 11] (fun n i wr => ∃ (k a : Nat), k ≤ s.size ∧ k ≤ 6 ∧ a < 128 ^ k ∧ n = .int .i64 a ∧ i = .int .i64 k ∧ wr = w1 ∧ Hid (tkL 0 0 (Lb s) = tkL k a ((Lb s).drop k))) (fun _ i _ => s.size - (intOf i).toNat)
  case atStart => exact ⟨0, 0, Nat.zero_le _, by omega, by decide, rfl, rfl, rfl, Lib.hid rfl⟩
  case round =>
    obtain ⟨k, a, hks, hk6, ha, rfl, rfl, rfl, hT⟩ := hrel
    by_cases hlt : k < s.size
    · have d0 : decide ((k : Int) < (s.size : Int)) = true := by simp; omega
      obtain ⟨c, hc⟩ : ∃ c, c = ((Lb s)[k]'(by rw [Lb_len]; exact hlt)).toNat := ⟨_, rfl⟩
      have hcell : wr.cell? ⟨w.heap.size, k, none⟩ = some (.int .u8 c) := by
        have := hbytes k ((Lb s)[k]'(by rw [Lb_len]; exact hlt)) (by unfold Lb; simp)
        rw [Nat.zero_add] at this
        rw [this, hc]
      have hc256 : c < 256 := by rw [hc]; exact UInt8.toNat_lt _
      have HC := Lib.hid hc
      clear hc
      have hdrop : (Lb s).drop k = (Lb s)[k]'(by rw [Lb_len]; exact hlt) :: (Lb s).drop (k + 1) := List.drop_eq_getElem_cons (by rw [Lb_len]; exact hlt)
      by_cases h6 : k = 6
      · subst h6
        have hR : Hid (tkN (Lb s) = (0, [], 2)) := Lib.hid (by
          unfold tkN
          rw [hT.out, hdrop]
          unfold tkL
          rw [if_pos rfl]
          rfl)
        clear hdrop
        go_wp2_with fail
        go_ret3
        rw [hR.out]
        exact ⟨rfl, hB1⟩
      · have k6 : ((k : Int) == 6) = false := by rw [beq_eq_false_iff_ne]; omega
        have hp6 := pow_le6 (k := k) (by omega)
        obtain ⟨x, hx⟩ : ∃ x, x = c % 128 := ⟨_, rfl⟩
        have hx1 : x ≤ 127 := by omega
        have hm : x * 128 ^ k ≤ 127 * 128 ^ k := Nat.mul_le_mul_right _ hx1
        obtain ⟨y, hy⟩ : ∃ y, y = x * 128 ^ k := ⟨_, rfl⟩
        obtain ⟨z, hz⟩ : ∃ z, z = a + y := ⟨_, rfl⟩
        have hyb : y < 9000000000000 := by omega
        have hab : a < 9000000000000 := by omega
        have hzb2 : z < 9000000000000 := by omega
        have hzb : z < 128 ^ (k + 1) := by rw [Nat.pow_succ]; omega
        have hor : bits .or .i64 (a : Int) (y : Int) = (z : Int) := by rw [or64 a y (Nat.lt_trans hab (by decide)) (Nat.lt_trans hyb (by decide)), hy, or_add a x k ha, hz, hy]
        have hshl : wrap64 ((x : Int) * 2 ^ (7 * k)) = (y : Int) := by
          have e : (x : Int) * 2 ^ (7 * k) = (y : Int) := by rw [hy, pow128]; simp
          rw [e]
          clear e hor hm hp6 hy hz hzb ha
          unfold wrap64
          omega
        have h127 : bits .and .u8 (c : Int) 127 = (x : Int) := by rw [and127 c hc256, hx]
        have HZB := Lib.hid hzb
        have HTL : Hid (tkL 0 0 (Lb s) = if 128 ≤ c then tkL (k + 1) z ((Lb s).drop (k + 1)) else if c = 0 ∧ 0 < k then (0, k, 2) else if 1099511627776 < z then (0, k, 4) else (z, k + 1, 0)) := Lib.hid (by
          rw [hT.out, hdrop]
          conv => lhs; unfold tkL
          rw [if_neg h6, ← HC.out, ← hx, ← hy, ← hz])
        clear hdrop hT hm hp6 hx hy hz hzb ha
        have h128 := and128 c hc256
        by_cases hc1 : 128 ≤ c
        · rw [if_pos hc1] at h128
          go_wp2_with fail
          go_roundw
          case rel => exact ⟨k + 1, z, by omega, by omega, HZB.out, rfl, by go_num, trivial, Lib.hid (by rw [HTL.out, if_pos hc1])⟩
          case measure => simp [intOf]; omega
        · rw [if_neg hc1] at h128
          by_cases hc0 : c = 0 ∧ 0 < k
          · have e1 : ((c : Int) == 0) = true := by rw [beq_iff_eq]; omega
            have e2 : decide (0 < k) = true := by simp; omega
            have hR : Hid (tkN (Lb s) = (0, [], 2)) := Lib.hid (by unfold tkN; rw [HTL.out, if_neg hc1, if_pos hc0]; rfl)
            clear hc0
            go_wp2_with fail
            go_ret3
            rw [hR.out]
            exact ⟨rfl, hB1⟩
          · by_cases hbig : 1099511627776 < z
            · have hR : Hid (tkN (Lb s) = (0, [], 4)) := Lib.hid (by unfold tkN; rw [HTL.out, if_neg hc1, if_neg hc0, if_pos hbig]; rfl)
              by_cases hcz : c = 0
              · have e1 : ((c : Int) == 0) = true := by rw [beq_iff_eq]; omega
                have e2 : decide (0 < k) = false := by simp; omega
                have HCZ := Lib.hid hcz
                clear hcz
                go_wp2_with fail
                go_ret3
                rw [hR.out]
                exact ⟨rfl, hB1⟩
              · have e1 : ((c : Int) == 0) = false := by rw [beq_eq_false_iff_ne]; omega
                go_wp2_with fail
                go_ret3
                rw [hR.out]
                exact ⟨rfl, hB1⟩
            · have hR : Hid (tkN (Lb s) = ((z : Int), (Lb s).drop (k + 1), 0)) := Lib.hid (by unfold tkN; rw [HTL.out, if_neg hc1, if_neg hc0, if_neg hbig]; rfl)
              have he := ext_tail s (k + 1)
              by_cases hcz : c = 0
              · have e1 : ((c : Int) == 0) = true := by rw [beq_iff_eq]; omega
                have e2 : decide (0 < k) = false := by simp; omega
                have HCZ := Lib.hid hcz
                clear hcz
                go_wp2_with fail
                go_quiet (fail)
                go_wp2_with fail
                go_ret3
                rw [hR.out]
                exact ⟨rfl, hB1.trans ⟨rfl, rfl, rfl, Nat.le_refl _, fun _ _ => rfl⟩⟩
              · have e1 : ((c : Int) == 0) = false := by rw [beq_eq_false_iff_ne]; omega
                go_wp2_with fail
                go_quiet (fail)
                go_wp2_with fail
                go_ret3
                rw [hR.out]
                exact ⟨rfl, hB1.trans ⟨rfl, rfl, rfl, Nat.le_refl _, fun _ _ => rfl⟩⟩
    · have d0 : decide ((k : Int) < (s.size : Int)) = false := by simp; omega
      have hR : Hid (tkN (Lb s) = (0, [], 3)) := Lib.hid (by
        unfold tkN
        rw [hT.out, List.drop_of_length_le (by rw [Lb_len]; omega)]
        unfold tkL
        rfl)
      go_wp2_with fail
      go_ret3
      rw [hR.out]
      exact ⟨rfl, hB1⟩
end Go.Proofs.YtoegdpcfhmjnaaaGreatDoor
