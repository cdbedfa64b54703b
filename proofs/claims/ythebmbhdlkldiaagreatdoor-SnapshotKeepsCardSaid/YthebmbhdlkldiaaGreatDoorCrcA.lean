/- Check sums: crc.table, Update, Sum. -/
import Derived.Test.YthebmbhdlkldiaaGreatDoorNumC
import Derived.Test.YthebmbhdlkldiaaGreatDoorCrcP
import Derived.Test.YthebmbhdlkldiaaGreatDoorBlP
namespace Go.Proofs.YthebmbhdlkldiaaGreatDoor
open Go.RowKit Go.Bl
attribute [local go_sem ↓] Go.wp_at_zero Go.wp_at_succ

theorem xor_ones (n : Nat) (h : n < 4294967296) : 4294967295 ^^^ n = 4294967295 - n := by
  have h1 := BitVec.toNat_not (x := BitVec.ofNat 32 n)
  rw [BitVec.not_def, BitVec.toNat_xor, BitVec.toNat_allOnes, BitVec.toNat_ofNat, Nat.mod_eq_of_lt (by omega)] at h1
  exact h1
theorem not32 (n : Nat) (h : n < 4294967296) : bits .xor .u32 IntKind.u32.max (n : Int) = ((4294967295 - n : Nat) : Int) := by
  have := Go.u32_xor_nat 4294967295 n (by decide) h
  rw [xor_ones n h] at this
  exact this
theorem and32 (a : Nat) (h : a < 4294967296) : bits .and .u32 (a : Int) 1 = ((a % 2 : Nat) : Int) := by
  have := Go.u32_and_nat a 1 h (by decide)
  rw [Nat.and_one_is_mod] at this
  exact this
theorem xorP (a : Nat) (h : a < 4294967296) : bits .xor .u32 ((a : Int) / 2) 3988292384 = ((a / 2 ^^^ 3988292384 : Nat) : Int) := Go.u32_xor_nat (a / 2) 3988292384 (by omega) (by decide)
theorem and15 (a : Nat) (h : a < 256) : bits .and .u8 (a : Int) 15 = ((a % 16 : Nat) : Int) := by
  have := Go.u8_and_nat a 15 h (by decide)
  rw [show a &&& 15 = a % 2 ^ 4 from Nat.and_two_pow_sub_one_eq_mod a 4] at this
  exact this
def bitN : Nat → Nat → Nat
  | 0, r => r
  | m + 1, r => bit1 (bitN m r)
theorem tabN_lt {i : Nat} (h : i < 16) : tabN i < 4294967296 := bit4_lt (by omega)
/-- The table: the block b holds it. -/
def TabIs (w : World) (b k : Nat) : Prop := ∃ cs t, w.heap[b]? = some (.cells cs t (0, 0)) ∧ cs.size = 16 ∧ ∀ j, j < 16 → cs[j]? = some (.int .u32 (if j < k then tabN j else 0 : Nat))
set_option maxRecDepth 8000 in
set_option maxHeartbeats 2000000 in
theorem table_any (w : World) : Calls Tryz.prog 117 #[] w fun e w' => e = .returned (.pointer (some ⟨w.heap.size, 0, none⟩)) ∧ TabIs w' w.heap.size 16 ∧ Below w.heap.size w w' := by
  go_enter Tryz.func117, Tryz.ntmps117
  go_wp2_with fail
  have hT0 : TabIs (w.alloc (.cells #[.int .u32 0, .int .u32 0, .int .u32 0, .int .u32 0, .int .u32 0, .int .u32 0, .int .u32 0, .int .u32 0, .int .u32 0, .int .u32 0, .int .u32 0, .int .u32 0, .int .u32 0, .int .u32 0, .int .u32 0, .int .u32 0] 212)) w.heap.size 0 :=
    ⟨_, _, heap_alloc_new _ _, rfl, fun j hj => by
      rw [if_neg (by omega)]
      match j, hj with
      | 0, _ => rfl | 1, _ => rfl | 2, _ => rfl | 3, _ => rfl | 4, _ => rfl | 5, _ => rfl | 6, _ => rfl | 7, _ => rfl | 8, _ => rfl | 9, _ => rfl | 10, _ => rfl | 11, _ => rfl | 12, _ => rfl | 13, _ => rfl | 14, _ => rfl | 15, _ => rfl
      | j + 16, h => omega⟩
  have hB0 : Below w.heap.size w (w.alloc (.cells #[.int .u32 0, .int .u32 0, .int .u32 0, .int .u32 0, .int .u32 0, .int .u32 0, .int .u32 0, .int .u32 0, .int .u32 0, .int .u32 0, .int .u32 0, .int .u32 0, .int .u32 0, .int .u32 0, .int .u32 0, .int .u32 0] 212)) := (Below.refl _ _).alloc (Nat.le_refl _) _
  generalize w.alloc (.cells #[.int .u32 0, .int .u32 0, .int .u32 0, .int .u32 0, .int .u32 0, .int .u32 0, .int .u32 0, .int .u32 0, .int .u32 0, .int .u32 0, .int .u32 0, .int .u32 0, .int .u32 0, .int .u32 0, .int .u32 0, .int .u32 0] 212) = w0 at hT0 hB0 ⊢
  go_loopw [4] (fun i wr => ∃ k : Nat, k ≤ 16 ∧ i = .int .i64 k ∧ TabIs wr w.heap.size k ∧ Below w.heap.size w wr) (fun i _ => 16 - (intOf i).toNat)
  case atStart => exact ⟨0, by omega, rfl, hT0, hB0⟩
  case round =>
    obtain ⟨k, hk, rfl, hT, hB⟩ := hrel
    by_cases hlt : k < 16
    · have d0 : decide ((k : Int) < 16) = true := by simp; omega
      go_wp2_with fail
      go_loopw [3, 9] (fun r i wr2 => ∃ m a : Nat, m ≤ 4 ∧ a < 4294967296 ∧ r = .int .u32 a ∧ i = .int .i64 m ∧ wr2 = wr ∧ Hid (a = bitN m k)) (fun _ i _ => 4 - (intOf i).toNat)
      case atStart => exact ⟨0, k, by omega, by omega, rfl, rfl, rfl, Lib.hid rfl⟩
      case round =>
        obtain ⟨m, a, hm, ha, rfl, rfl, rfl, hA⟩ := hrel
        by_cases hlm : m < 4
        · have d1 : decide ((m : Int) < 4) = true := by simp; omega
          have h1 := and32 a ha
          have hb := bit1_lt ha
          rcases Nat.mod_two_eq_zero_or_one a with e | e
          · rw [e] at h1
            have hA2 : Hid (a / 2 = bitN (m + 1) k) := Lib.hid (by show _ = bit1 _; rw [← hA.out]; unfold bit1; rw [if_neg (by omega)])
            have HE := Lib.hid e
            clear hb e
            go_wp2_with fail
            go_roundw
            case rel => exact ⟨m + 1, a / 2, by omega, by omega, rfl, by go_num, trivial, hA2⟩
            case measure => simp [intOf]; omega
          · rw [e] at h1
            have hA2 : Hid (a / 2 ^^^ 3988292384 = bitN (m + 1) k) := Lib.hid (by show _ = bit1 _; rw [← hA.out]; unfold bit1; rw [if_pos e])
            have hx := xorP a ha
            unfold bit1 at hb
            rw [if_pos e] at hb
            obtain ⟨b, hbb⟩ : ∃ b, b = a / 2 ^^^ 3988292384 := ⟨_, rfl⟩
            rw [← hbb] at hx hA2 hb
            have HE := Lib.hid e
            clear e hbb
            go_wp2_with fail
            go_roundw
            case rel => exact ⟨m + 1, b, by omega, hb, rfl, by go_num, trivial, hA2⟩
            case measure => simp [intOf]; omega
        · obtain rfl : m = 4 := by omega
          obtain ⟨cs, t, hblk, hcs, hcell⟩ := hT
          have hA4 : Hid (a = tabN k) := hA
          have c0 : wr.cell? ⟨w.heap.size, k, none⟩ = some (.int .u32 0) := by rw [cell_of_row wr _ k _ _ _ hblk, hcell k hlt, if_neg (by omega)]; rfl
          have f0 : wr.frozen? ⟨w.heap.size, k, none⟩ = false := frozen_block hblk k
          have hT2 : TabIs (wr.setCell ⟨w.heap.size, k, none⟩ (.int .u32 a)) w.heap.size (k + 1) := ⟨_, _, setCell_block hblk _, by simpa using hcs, fun j hj => by
            rw [Array.set!_eq_setIfInBounds, Array.getElem?_setIfInBounds]
            by_cases e : k = j
            · subst e
              rw [if_pos rfl, if_pos (by omega), if_pos (by omega), hA4.out]
            · rw [if_neg e, hcell j hj]
              by_cases h2 : j < k
              · rw [if_pos h2, if_pos (by omega)]
              · rw [if_neg h2, if_neg (by omega)]⟩
          clear hcell
          go_wp2_with fail
          go_roundw
          case rel => exact ⟨k + 1, by omega, by go_num, hT2, hB.setCell (p := ⟨w.heap.size, k, none⟩) (Nat.le_refl _) _⟩
          case measure => simp [intOf]; omega
    · obtain rfl : k = 16 := by omega
      go_wp2_with fail
      go_ret
      exact ⟨rfl, hT, hB⟩
set_option maxRecDepth 8000 in
set_option maxHeartbeats 2000000 in
theorem update_any (w : World) (n : Nat) (hn : n < 4294967296) (s : ByteArray) (hs : s.size ≤ 1000000000000) : Calls Tryz.prog 90 #[.int .u32 n, .string s] w fun e w' => e = .returned (.int .u32 (crcU n (Lb s))) ∧ Below w.heap.size w w' := by
  have hn0 := not32 n hn
  obtain ⟨r0, hr0⟩ : ∃ r, r = 4294967295 - n := ⟨_, rfl⟩
  rw [← hr0] at hn0
  have hr0b : r0 < 4294967296 := by omega
  have HR0 := Lib.hid hr0
  clear hr0
  go_enter Tryz.func90, Tryz.ntmps90
  go_wp2_with fail
  refine (table_any w).mono ?_
  rintro e w1 ⟨rfl, hT, hB1⟩
  obtain ⟨cap, w2, hconv, hcap, hsz, hk, hbytes, hfz⟩ := to_bytes (P := Tryz.prog) Tryz.underlying9 Tryz.underlying80 Tryz.underlying5 w1 s
  have hB2 : Below w.heap.size w w2 := hB1.trans (hk.below hB1.size (fun _ h => h.elim))
  have hbt : w.heap.size < w1.heap.size := by
    obtain ⟨cs, t, hblk, _⟩ := hT
    exact (Array.getElem?_eq_some_iff.1 hblk).1
  have hT2 : TabIs w2 w.heap.size 16 := by
    obtain ⟨cs, t, hblk, h2⟩ := hT
    exact ⟨cs, t, hk.grownTo hblk (fun h => h), h2⟩
  have HZ := Lib.hid hsz
  clear hT hsz hk hfz
  obtain ⟨b1, hb1⟩ : ∃ b, w1.heap.size = b := ⟨_, rfl⟩
  rw [hb1] at hconv hbytes
  go_wp2_with fail
  go_loopw [6, 15] (fun r i wr => ∃ (k a : Nat), k ≤ s.size ∧ a < 4294967296 ∧ r = .int .u32 a ∧ i = .int .i64 k ∧ wr = w2 ∧ Hid (a = ((Lb s).take k).foldl (fun r c => crcS r c.toNat) r0)) (fun _ i _ => s.size - (intOf i).toNat)
  case atStart => exact ⟨0, r0, Nat.zero_le _, hr0b, rfl, rfl, rfl, Lib.hid rfl⟩
  case round =>
    obtain ⟨k, a, hks, ha, rfl, rfl, rfl, hA⟩ := hrel
    by_cases hlt : k < s.size
    · have d0 : decide ((k : Int) < (s.size : Int)) = true := by simp; omega
      have hkl : k < (Lb s).length := by rw [Lb_len]; omega
      obtain ⟨c, hc⟩ : ∃ c, c = ((Lb s)[k]'hkl).toNat := ⟨_, rfl⟩
      have hcell : wr.cell? ⟨b1, k, none⟩ = some (.int .u8 c) := by
        have := hbytes k ((Lb s)[k]'hkl) (by rw [Lb_at]; exact List.getElem?_eq_getElem hkl)
        rw [Nat.zero_add] at this
        rw [this, hc]
      have hc256 : c < 256 := by rw [hc]; exact UInt8.toNat_lt _
      have HA2 : Hid (crcS a c = ((Lb s).take (k + 1)).foldl (fun r c => crcS r c.toNat) r0) := Lib.hid (by
        rw [List.take_succ_eq_append_getElem hkl, List.foldl_append, ← hA.out, hc]
        rfl)
      clear hc
      have hxl : ∀ x y : Nat, x < 256 → y < 256 → x ^^^ y < 256 := fun x y hx hy => Nat.xor_lt_two_pow (n := 8) hx hy
      have hxw : ∀ x y : Nat, x < 4294967296 → y < 4294967296 → x ^^^ y < 4294967296 := fun x y hx hy => Nat.xor_lt_two_pow (n := 32) hx hy
      obtain ⟨p, hp⟩ : ∃ p, p = a % 256 ^^^ c := ⟨_, rfl⟩
      have hpb : p < 256 := by rw [hp]; exact hxl _ _ (by omega) hc256
      have e1 : bits .xor .u8 ((a : Int) % 256) (c : Int) = (p : Int) := by rw [hp]; exact Go.u8_xor_nat (a % 256) c (by omega) hc256
      obtain ⟨x, hx⟩ : ∃ x, x = p % 16 := ⟨_, rfl⟩
      have e2 : bits .and .u8 (p : Int) 15 = (x : Int) := by rw [hx]; exact and15 p hpb
      have hxb : x < 16 := by omega
      obtain ⟨t, ht⟩ : ∃ t, t = tabN x := ⟨_, rfl⟩
      have htb : t < 4294967296 := by rw [ht]; exact tabN_lt hxb
      have c1 : wr.cell? ⟨w.heap.size, x, none⟩ = some (.int .u32 t) := by
        obtain ⟨cs, ty, hblk, hcs, hcl⟩ := hT2
        rw [cell_of_row wr _ x _ _ _ hblk, hcl x hxb, if_pos hxb, ht]
      obtain ⟨r1, hr1⟩ : ∃ r1, r1 = t ^^^ a / 16 := ⟨_, rfl⟩
      have hr1b : r1 < 4294967296 := by rw [hr1]; exact hxw _ _ htb (by omega)
      have e3 : bits .xor .u32 (t : Int) ((a : Int) / 16) = (r1 : Int) := by rw [hr1]; exact Go.u32_xor_nat t (a / 16) htb (by omega)
      obtain ⟨p2, hp2⟩ : ∃ p, p = r1 % 256 ^^^ c / 16 := ⟨_, rfl⟩
      have hpb2 : p2 < 256 := by rw [hp2]; exact hxl _ _ (by omega) (by omega)
      have e4 : bits .xor .u8 ((r1 : Int) % 256) ((c : Int) / 16) = (p2 : Int) := by rw [hp2]; exact Go.u8_xor_nat (r1 % 256) (c / 16) (by omega) (by omega)
      obtain ⟨x2, hx2⟩ : ∃ x, x = p2 % 16 := ⟨_, rfl⟩
      have e5 : bits .and .u8 (p2 : Int) 15 = (x2 : Int) := by rw [hx2]; exact and15 p2 hpb2
      have hxb2 : x2 < 16 := by omega
      obtain ⟨t2, ht2⟩ : ∃ t, t = tabN x2 := ⟨_, rfl⟩
      have htb2 : t2 < 4294967296 := by rw [ht2]; exact tabN_lt hxb2
      have c2 : wr.cell? ⟨w.heap.size, x2, none⟩ = some (.int .u32 t2) := by
        obtain ⟨cs, ty, hblk, hcs, hcl⟩ := hT2
        rw [cell_of_row wr _ x2 _ _ _ hblk, hcl x2 hxb2, if_pos hxb2, ht2]
      obtain ⟨r2, hr2⟩ : ∃ r2, r2 = t2 ^^^ r1 / 16 := ⟨_, rfl⟩
      have hr2b : r2 < 4294967296 := by rw [hr2]; exact hxw _ _ htb2 (by omega)
      have e6 : bits .xor .u32 (t2 : Int) ((r1 : Int) / 16) = (r2 : Int) := by rw [hr2]; exact Go.u32_xor_nat t2 (r1 / 16) htb2 (by omega)
      have HS : Hid (r2 = crcS a c) := Lib.hid (by rw [hr2, ht2, hx2, hp2, hr1, ht, hx, hp]; rfl)
      clear hp hx ht hr1 hp2 hx2 ht2 hr2 hxl hxw
      go_wp2_with fail
      go_roundw
      case rel => exact ⟨k + 1, r2, by omega, hr2b, rfl, by go_num, trivial, Lib.hid (by rw [HS.out, HA2.out])⟩
      case measure => simp [intOf]; omega
    · have d0 : decide ((k : Int) < (s.size : Int)) = false := by simp; omega
      have hn1 := not32 a ha
      have HR : Hid (crcU n (Lb s) = 4294967295 - a) := Lib.hid (by unfold crcU; rw [← HR0.out, hA.out, List.take_of_length_le (by rw [Lb_len]; omega)])
      rw [← HR.out] at hn1
      go_wp2_with fail
      go_ret
      exact ⟨rfl, hB2⟩
set_option maxHeartbeats 2000000 in
theorem sum_any (w : World) (s : ByteArray) (hs : s.size ≤ 1000000000000) : Calls Tryz.prog 39 #[.string s] w fun e w' => e = .returned (.int .u32 (crcU 0 (Lb s))) ∧ Below w.heap.size w w' := by
  have hu := update_any w 0 (by decide) s hs
  have HU := Lib.hid hu
  clear hu
  go_enter Tryz.func39, Tryz.ntmps39
  go_wp2_with fail
  refine HU.out.mono ?_
  rintro e w1 ⟨rfl, hB⟩
  go_wp2_with fail
  go_ret
  exact ⟨rfl, hB⟩
end Go.Proofs.YthebmbhdlkldiaaGreatDoor
