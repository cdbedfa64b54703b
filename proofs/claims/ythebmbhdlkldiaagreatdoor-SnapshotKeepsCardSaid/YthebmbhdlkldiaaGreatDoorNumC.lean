/- Numbers as four bytes: num.Fixed, num.TakeFixed. -/
import Derived.Test.YthebmbhdlkldiaaGreatDoorNumB
namespace Go.Proofs.YthebmbhdlkldiaaGreatDoor
open Go.RowKit Go.Bl
attribute [local go_sem ↓] Go.wp_at_zero Go.wp_at_succ

theorem fixL_toNat (n : Nat) (h : n < 4294967296) : (fixL n).map UInt8.toNat = [n / 16777216, n / 65536 % 256, n / 256 % 256, n % 256] := by
  unfold fixL
  simp
  omega
theorem or32 (a c : Nat) (hc : c < 256) : bits .or .u32 ((a : Int) * 256 % 4294967296) (c : Int) = (((a * 256 + c) % 4294967296 : Nat) : Int) := by
  have e : (a : Int) * 256 % 4294967296 = ((256 * (a % 16777216) : Nat) : Int) := by omega
  rw [e, Go.u32_or_nat _ _ (by omega) (by omega)]
  have := Nat.two_pow_add_eq_or_of_lt (i := 8) (b := c) hc (a % 16777216)
  rw [show (2 : Nat) ^ 8 = 256 from rfl] at this
  rw [← this]
  congr 1
  omega
theorem data_at (l : List UInt8) (j : Nat) : (Bl l).data[j]? = l[j]? := by unfold Bl; simp
theorem Lb_at (s : ByteArray) (j : Nat) : s.data[j]? = (Lb s)[j]? := by unfold Lb; simp
set_option maxRecDepth 8000 in
set_option maxHeartbeats 2000000 in
theorem fixed_any (w : World) (n : Nat) (hn : n < 4294967296) : Calls Tryz.prog 38 #[.int .u32 n] w fun e w' => e = .returned (.string (Bl (fixL n))) ∧ Below w.heap.size w w' := by
  have hf := fixL_toNat n hn
  obtain ⟨x0, h0⟩ : ∃ x, x = n / 16777216 := ⟨_, rfl⟩
  obtain ⟨x1, h1⟩ : ∃ x, x = n / 65536 % 256 := ⟨_, rfl⟩
  obtain ⟨x2, h2⟩ : ∃ x, x = n / 256 % 256 := ⟨_, rfl⟩
  obtain ⟨x3, h3⟩ : ∃ x, x = n % 256 := ⟨_, rfl⟩
  have e0 : (n : Int) / 16777216 = (x0 : Int) := by omega
  have e1 : (n : Int) / 65536 % 256 = (x1 : Int) := by omega
  have e2 : (n : Int) / 256 % 256 = (x2 : Int) := by omega
  have e3 : (n : Int) % 256 = (x3 : Int) := by omega
  rw [← h0, ← h1, ← h2, ← h3] at hf
  have hconv := from_bytes (P := Tryz.prog) Tryz.underlying80 Tryz.underlying5 Tryz.underlying9 (w.alloc (.cells #[.int .u8 x0, .int .u8 x1, .int .u8 x2, .int .u8 x3] 5)) w.heap.size 0 4 4 (Bl (fixL n)) rfl (fun j u hu => by
    have hu' : (fixL n)[j]? = some u := by
      have : (Bl (fixL n)).data[j]? = (fixL n)[j]? := by unfold Bl; simp
      rw [← this]; exact hu
    have hm : ((fixL n).map UInt8.toNat)[j]? = some u.toNat := by rw [List.getElem?_map, hu']; rfl
    rw [hf] at hm
    rw [cell_of_row _ w.heap.size (0 + j) _ _ _ (heap_alloc_new w (.cells #[.int .u8 x0, .int .u8 x1, .int .u8 x2, .int .u8 x3] 5)), Nat.zero_add]
    match j, hm with
    | 0, hm => simp at hm; simp [hm]
    | 1, hm => simp at hm; simp [hm]
    | 2, hm => simp at hm; simp [hm]
    | 3, hm => simp at hm; simp [hm]
    | j + 4, hm => simp at hm)
  clear hf h0 h1 h2 h3
  go_enter Tryz.func38, Tryz.ntmps38
  go_wp2_with fail
  go_ret
  exact ⟨rfl, (Below.refl _ _).alloc (Nat.le_refl _) _⟩
set_option maxRecDepth 8000 in
set_option maxHeartbeats 2000000 in
theorem takeFixed_any (w : World) (s : ByteArray) (h4 : 4 ≤ s.size) (hs : s.size ≤ 1000000000000) : Calls Tryz.prog 41 #[.string s] w fun e w' => e = .returned (.tuple #[.int .u32 (unfix ((Lb s).take 4)), .string (Bl ((Lb s).drop 4)), .int .i64 0]) ∧ Below w.heap.size w w' := by
  obtain ⟨cap, w1, hconv, hcap, hsz, hk, hbytes, hfz⟩ := to_bytes (P := Tryz.prog) Tryz.underlying9 Tryz.underlying80 Tryz.underlying5 w (s.extract 0 4)
  have hB1 : Below w.heap.size w w1 := hk.below (Nat.le_refl _) (fun _ h => h.elim)
  obtain ⟨q, hq⟩ : ∃ q, q = (s.extract 0 4) := ⟨_, rfl⟩
  have hLq : Lb q = (Lb s).take 4 := by rw [hq, ext_head, Lb_Bl]
  have hq4 : q.size = 4 := by rw [← Lb_len, hLq]; simp [Lb_len]; omega
  have hx : s.extract 0 4 = q := hq.symm
  rw [hx, hq4] at hconv
  rw [hx] at hbytes
  have he := ext_tail s 4
  have HL := Lib.hid hLq
  have HQ := Lib.hid hq4
  clear hq hLq hq4 hsz hk hfz hcap
  have ha0 := unfix_lt ((Lb s).take 4)
  go_enter Tryz.func41, Tryz.ntmps41
  go_wp2_with fail
  go_loopw [5, 15] (fun n i wr => ∃ (k a : Nat), k ≤ 4 ∧ a < 4294967296 ∧ n = .int .u32 a ∧ i = .int .i64 k ∧ wr = w1 ∧ Hid (a = unfix ((Lb s).take k))) (fun _ i _ => 4 - (intOf i).toNat)
  case atStart => exact ⟨0, 0, by omega, by omega, rfl, rfl, rfl, Lib.hid rfl⟩
  case round =>
    obtain ⟨k, a, hk4, ha, rfl, rfl, rfl, hT⟩ := hrel
    by_cases hlt : k < 4
    · have d0 : decide ((k : Int) < 4) = true := by simp; omega
      have hkl : k < (Lb s).length := by rw [Lb_len]; omega
      obtain ⟨c, hc⟩ : ∃ c, c = ((Lb s)[k]'hkl).toNat := ⟨_, rfl⟩
      have hcell : wr.cell? ⟨w.heap.size, k, none⟩ = some (.int .u8 c) := by
        have := hbytes k ((Lb s)[k]'hkl) (by
          rw [Lb_at, HL.out, List.getElem?_take, if_pos hlt]
          exact List.getElem?_eq_getElem hkl)
        rw [Nat.zero_add] at this
        rw [this, hc]
      have hc256 : c < 256 := by rw [hc]; exact UInt8.toNat_lt _
      have HC := Lib.hid hc
      clear hc
      obtain ⟨b, hb⟩ : ∃ b, b = (a * 256 + c) % 4294967296 := ⟨_, rfl⟩
      have hor := or32 a c hc256
      rw [← hb] at hor
      have hb2 : b < 4294967296 := by omega
      have HB : Hid (b = unfix ((Lb s).take (k + 1))) := Lib.hid (by
        rw [hb, hT.out, HC.out, List.take_succ_eq_append_getElem hkl]
        unfold unfix
        rw [List.foldl_append]
        rfl)
      clear hb
      go_wp2_with fail
      go_roundw
      case rel => exact ⟨k + 1, b, by omega, hb2, rfl, by go_num, trivial, HB⟩
      case measure => simp [intOf]; omega
    · obtain rfl : k = 4 := by omega
      go_wp2_with fail
      go_quiet (fail)
      go_wp2_with fail
      go_ret3
      rw [hT.out]
      exact ⟨rfl, hB1.trans ⟨rfl, rfl, rfl, Nat.le_refl _, fun _ _ => rfl⟩⟩
end Go.Proofs.YthebmbhdlkldiaaGreatDoor
