/- The document's sum (bucketlineref3): bit by bit, the same as by the table. Under the stated premises on sizes. -/
import Derived.Test.YthdehdlbocgfaaaGreatDoorCrcA
namespace Go.Proofs.YthdehdlbocgfaaaGreatDoor
open Go.RowKit Go.Bl
attribute [local go_sem ↓] Go.wp_at_zero Go.wp_at_succ

set_option maxRecDepth 8000 in
set_option maxHeartbeats 2000000 in
theorem rupdate_any (w : World) (n : Nat) (hn : n < 4294967296) (s : ByteArray) (hs : s.size ≤ 1000000000000) : Calls Tryz.prog 82 #[.int .u32 n, .string s] w fun e w' => e = .returned (.int .u32 (crcU n (Lb s))) ∧ w = w' := by
  have hn0 := not32 n hn
  obtain ⟨r0, hr0⟩ : ∃ r, r = 4294967295 - n := ⟨_, rfl⟩
  rw [← hr0] at hn0
  have hr0b : r0 < 4294967296 := by omega
  have HR0 := Lib.hid hr0
  clear hr0
  go_enter Tryz.func82, Tryz.ntmps82
  go_wp2_with fail
  go_loopw [5, 6] (fun r i wr => ∃ (k a : Nat), k ≤ s.size ∧ a < 4294967296 ∧ r = .int .u32 a ∧ i = .int .i64 k ∧ wr = w ∧ Hid (a = ((Lb s).take k).foldl (fun r c => crcS r c.toNat) r0)) (fun _ i _ => s.size - (intOf i).toNat)
  case atStart => exact ⟨0, r0, Nat.zero_le _, hr0b, rfl, rfl, rfl, Lib.hid rfl⟩
  case round =>
    obtain ⟨k, a, hks, ha, rfl, rfl, rfl, hA⟩ := hrel
    by_cases hlt : k < s.size
    · have d0 : decide ((k : Int) < (s.size : Int)) = true := by simp; omega
      have hkl : k < (Lb s).length := by rw [Lb_len]; omega
      obtain ⟨c, hc⟩ : ∃ c, c = (s[k]'hlt).toNat := ⟨_, rfl⟩
      have hcs : ((s[k]'hlt).toNat : Int) = (c : Int) := by rw [hc]
      have hc256 : c < 256 := by rw [hc]; exact UInt8.toNat_lt _
      have HA2 : Hid (crcS a c = ((Lb s).take (k + 1)).foldl (fun r c => crcS r c.toNat) r0) := Lib.hid (by
        rw [List.take_succ_eq_append_getElem hkl, List.foldl_append, ← hA.out, hc]
        rfl)
      obtain ⟨y, hy⟩ : ∃ y, y = a ^^^ c := ⟨_, rfl⟩
      have hyb : y < 4294967296 := by rw [hy]; exact Nat.xor_lt_two_pow (n := 32) ha (by omega)
      have hxor : bits .xor .u32 (a : Int) (c : Int) = (y : Int) := by rw [hy]; exact Go.u32_xor_nat a c ha (by omega)
      have HS : Hid (crcS a c = bitN 8 y) := Lib.hid (by rw [crcS_doc a c hc256, ← hy]; rfl)
      clear hc hy hA
      go_wp2_with fail
      go_loopw [5, 7] (fun r i wr2 => ∃ m b : Nat, m ≤ 8 ∧ b < 4294967296 ∧ r = .int .u32 b ∧ i = .int .i64 m ∧ wr2 = wr ∧ Hid (b = bitN m y)) (fun _ i _ => 8 - (intOf i).toNat)
      case atStart => exact ⟨0, y, by omega, hyb, rfl, rfl, rfl, Lib.hid rfl⟩
      case round =>
        obtain ⟨m, b, hm, hb, rfl, rfl, rfl, hB⟩ := hrel
        by_cases hlm : m < 8
        · have d1 : decide ((m : Int) < 8) = true := by simp; omega
          have h1 := and32 b hb
          have hbb := bit1_lt hb
          rcases Nat.mod_two_eq_zero_or_one b with e | e
          · rw [e] at h1
            have hA2 : Hid (b / 2 = bitN (m + 1) y) := Lib.hid (by show _ = bit1 _; rw [← hB.out]; unfold bit1; rw [if_neg (by omega)])
            have HE := Lib.hid e
            clear hbb e
            go_wp2_with fail
            go_roundw
            case rel => exact ⟨m + 1, b / 2, by omega, by omega, rfl, by go_num, trivial, hA2⟩
            case measure => simp [intOf]; omega
          · rw [e] at h1
            have hA2 : Hid (b / 2 ^^^ 3988292384 = bitN (m + 1) y) := Lib.hid (by show _ = bit1 _; rw [← hB.out]; unfold bit1; rw [if_pos e])
            have hx := xorP b hb
            unfold bit1 at hbb
            rw [if_pos e] at hbb
            obtain ⟨z, hz⟩ : ∃ z, z = b / 2 ^^^ 3988292384 := ⟨_, rfl⟩
            rw [← hz] at hx hA2 hbb
            have HE := Lib.hid e
            clear e hz
            go_wp2_with fail
            go_roundw
            case rel => exact ⟨m + 1, z, by omega, hbb, rfl, by go_num, trivial, hA2⟩
            case measure => simp [intOf]; omega
        · obtain rfl : m = 8 := by omega
          go_wp2_with fail
          go_roundw
          case rel => exact ⟨k + 1, b, by omega, hb, rfl, by go_num, trivial, Lib.hid (by rw [hB.out, ← HS.out, HA2.out])⟩
          case measure => simp [intOf]; omega
    · have d0 : decide ((k : Int) < (s.size : Int)) = false := by simp; omega
      have hn1 := not32 a ha
      have HR : Hid (crcU n (Lb s) = 4294967295 - a) := Lib.hid (by unfold crcU; rw [← HR0.out, hA.out, List.take_of_length_le (by rw [Lb_len]; omega)])
      rw [← HR.out] at hn1
      go_wp2_with fail
      go_ret
      exact ⟨rfl, rfl⟩
set_option maxHeartbeats 2000000 in
theorem rsum_any (w : World) (s : ByteArray) (hs : s.size ≤ 1000000000000) : Calls Tryz.prog 65 #[.string s] w fun e w' => e = .returned (.int .u32 (crcU 0 (Lb s))) ∧ w = w' := by
  have hu := rupdate_any w 0 (by decide) s hs
  have HU := Lib.hid hu
  clear hu
  go_enter Tryz.func65, Tryz.ntmps65
  go_wp2_with fail
  refine HU.out.mono ?_
  rintro e w1 ⟨rfl, rfl⟩
  go_wp2_with fail
  go_ret
  exact ⟨rfl, rfl⟩
end Go.Proofs.YthdehdlbocgfaaaGreatDoor
