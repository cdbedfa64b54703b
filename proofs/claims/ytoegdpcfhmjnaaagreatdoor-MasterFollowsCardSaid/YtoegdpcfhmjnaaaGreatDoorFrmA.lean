/- Frames: frame.Put, frame.Take. -/
import Derived.Test.YtoegdpcfhmjnaaaGreatDoorNumC
import Derived.Test.YtoegdpcfhmjnaaaGreatDoorCrcP
import Derived.Test.YtoegdpcfhmjnaaaGreatDoorBlP
import Derived.Test.YtoegdpcfhmjnaaaGreatDoorFrmP
import Derived.Test.YtoegdpcfhmjnaaaGreatDoorBlU
/- Check sums: crc.table, Update, Sum. -/
namespace Go.Proofs.YtoegdpcfhmjnaaaGreatDoor
open Go.RowKit Go.Bl
attribute [local go_sem ↓] Go.wp_at_zero Go.wp_at_succ

theorem xor_ones (n : Nat) (h : n < 4294967296) : 4294967295 ^^^ n = 4294967295 - n := by
  have h1 := BitVec.toNat_not (x := BitVec.ofNat 32 n)
  rw [BitVec.not_def, BitVec.toNat_xor, BitVec.toNat_allOnes, BitVec.toNat_ofNat, Nat.mod_eq_of_lt (by omega)] at h1
  exact h1
theorem not32 (n : Nat) (h : n < 4294967296) : bits .xor .u32 IntKind.u32.max (n : Int) = ((4294967295 - n : Nat) : Int) := by
  have := Go.u32_xor_nat 4294967295 n (by decide) h
  rw [xor_ones n h] at this
  exact this
theorem and32 (a : Nat) (h : a < 4294967296) : bits .and .u32 (a : Int) 1 = ((a % 2 : Nat) : Int) := by
  have := Go.u32_and_nat a 1 h (by decide)
  rw [Nat.and_one_is_mod] at this
  exact this
theorem xorP (a : Nat) (h : a < 4294967296) : bits .xor .u32 ((a : Int) / 2) 3988292384 = ((a / 2 ^^^ 3988292384 : Nat) : Int) := Go.u32_xor_nat (a / 2) 3988292384 (by omega) (by decide)
theorem and15 (a : Nat) (h : a < 256) : bits .and .u8 (a : Int) 15 = ((a % 16 : Nat) : Int) := by
  have := Go.u8_and_nat a 15 h (by decide)
  rw [show a &&& 15 = a % 2 ^ 4 from Nat.and_two_pow_sub_one_eq_mod a 4] at this
  exact this
def bitN : Nat → Nat → Nat
  | 0, r => r
  | m + 1, r => bit1 (bitN m r)
theorem tabN_lt {i : Nat} (h : i < 16) : tabN i < 4294967296 := bit4_lt (by omega)
/-- The table: the block b holds it. -/
def TabIs (w : World) (b k : Nat) : Prop := ∃ cs t, w.heap[b]? = some (.cells cs t (0, 0)) ∧ cs.size = 16 ∧ ∀ j, j < 16 → cs[j]? = some (.int .u32 (if j < k then tabN j else 0 : Nat))
set_option maxRecDepth 8000 in
set_option maxHeartbeats 2000000 in
theorem table_any (w : World) : Calls Tryz.prog 85 #[] w fun e w' => e = .returned (.pointer (some ⟨w.heap.size, 0, none⟩)) ∧ TabIs w' w.heap.size 16 ∧ Below w.heap.size w w' := by
  go_enter Tryz.func85, Tryz.ntmps85
  go_wp2_with fail
  have hT0 : TabIs (w.alloc (.cells #[.int .u32 0, .int .u32 0, .int .u32 0, .int .u32 0, .int .u32 0, .int .u32 0, .int .u32 0, .int .u32 0, .int .u32 0, .int .u32 0, .int .u32 0, .int .u32 0, .int .u32 0, .int .u32 0, .int .u32 0, .int .u32 0] 221)) w.heap.size 0 :=
    ⟨_, _, heap_alloc_new _ _, rfl, fun j hj => by
      rw [if_neg (by omega)]
      match j, hj with
      | 0, _ => rfl | 1, _ => rfl | 2, _ => rfl | 3, _ => rfl | 4, _ => rfl | 5, _ => rfl | 6, _ => rfl | 7, _ => rfl | 8, _ => rfl | 9, _ => rfl | 10, _ => rfl | 11, _ => rfl | 12, _ => rfl | 13, _ => rfl | 14, _ => rfl | 15, _ => rfl
      | j + 16, h => omega⟩
  have hB0 : Below w.heap.size w (w.alloc (.cells #[.int .u32 0, .int .u32 0, .int .u32 0, .int .u32 0, .int .u32 0, .int .u32 0, .int .u32 0, .int .u32 0, .int .u32 0, .int .u32 0, .int .u32 0, .int .u32 0, .int .u32 0, .int .u32 0, .int .u32 0, .int .u32 0] 221)) := (Below.refl _ _).alloc (Nat.le_refl _) _
  generalize w.alloc (.cells #[.int .u32 0, .int .u32 0, .int .u32 0, .int .u32 0, .int .u32 0, .int .u32 0, .int .u32 0, .int .u32 0, .int .u32 0, .int .u32 0, .int .u32 0, .int .u32 0, .int .u32 0, .int .u32 0, .int .u32 0, .int .u32 0] 221) = w0 at hT0 hB0 ⊢
  go_loopw [4] (fun i wr => ∃ k : Nat, k ≤ 16 ∧ i = .int .i64 k ∧ TabIs wr w.heap.size k ∧ Below w.heap.size w wr) (fun i _ => 16 - (intOf i).toNat)
  case atStart => exact ⟨0, by omega, rfl, hT0, hB0⟩
  case round =>
    obtain ⟨k, hk, rfl, hT, hB⟩ := hrel
    by_cases hlt : k < 16
    · have d0 : decide ((k : Int) < 16) = true := by simp; omega
      go_wp2_with fail
      go_loopw [3, 9] (fun r i wr2 => ∃ m a : Nat, m ≤ 4 ∧ a < 4294967296 ∧ r = .int .u32 a ∧ i = .int .i64 m ∧ wr2 = wr ∧ Hid (a = bitN m k)) (fun _ i _ => 4 - (intOf i).toNat)
      case atStart => exact ⟨0, k, by omega, by omega, rfl, rfl, rfl, Lib.hid rfl⟩
      case round =>
        obtain ⟨m, a, hm, ha, rfl, rfl, rfl, hA⟩ := hrel
        by_cases hlm : m < 4
        · have d1 : decide ((m : Int) < 4) = true := by simp; omega
          have h1 := and32 a ha
          have hb := bit1_lt ha
          rcases Nat.mod_two_eq_zero_or_one a with e | e
          · rw [e] at h1
            have hA2 : Hid (a / 2 = bitN (m + 1) k) := Lib.hid (by show _ = bit1 _; rw [← hA.out]; unfold bit1; rw [if_neg (by omega)])
            have HE := Lib.hid e
            clear hb e
            go_wp2_with fail
            go_roundw
            case rel => exact ⟨m + 1, a / 2, by omega, by omega, rfl, by go_num, trivial, hA2⟩
            case measure => simp [intOf]; omega
          · rw [e] at h1
            have hA2 : Hid (a / 2 ^^^ 3988292384 = bitN (m + 1) k) := Lib.hid (by show _ = bit1 _; rw [← hA.out]; unfold bit1; rw [if_pos e])
            have hx := xorP a ha
            unfold bit1 at hb
            rw [if_pos e] at hb
            obtain ⟨b, hbb⟩ : ∃ b, b = a / 2 ^^^ 3988292384 := ⟨_, rfl⟩
            rw [← hbb] at hx hA2 hb
            have HE := Lib.hid e
            clear e hbb
            go_wp2_with fail
            go_roundw
            case rel => exact ⟨m + 1, b, by omega, hb, rfl, by go_num, trivial, hA2⟩
            case measure => simp [intOf]; omega
        · obtain rfl : m = 4 := by omega
          obtain ⟨cs, t, hblk, hcs, hcell⟩ := hT
          have hA4 : Hid (a = tabN k) := hA
          have c0 : wr.cell? ⟨w.heap.size, k, none⟩ = some (.int .u32 0) := by rw [cell_of_row wr _ k _ _ _ hblk, hcell k hlt, if_neg (by omega)]; rfl
          have f0 : wr.frozen? ⟨w.heap.size, k, none⟩ = false := frozen_block hblk k
          have hT2 : TabIs (wr.setCell ⟨w.heap.size, k, none⟩ (.int .u32 a)) w.heap.size (k + 1) := ⟨_, _, setCell_block hblk _, by simpa using hcs, fun j hj => by
            rw [Array.set!_eq_setIfInBounds, Array.getElem?_setIfInBounds]
            by_cases e : k = j
            · subst e
              rw [if_pos rfl, if_pos (by omega), if_pos (by omega), hA4.out]
            · rw [if_neg e, hcell j hj]
              by_cases h2 : j < k
              · rw [if_pos h2, if_pos (by omega)]
              · rw [if_neg h2, if_neg (by omega)]⟩
          clear hcell
          go_wp2_with fail
          go_roundw
          case rel => exact ⟨k + 1, by omega, by go_num, hT2, hB.setCell (p := ⟨w.heap.size, k, none⟩) (Nat.le_refl _) _⟩
          case measure => simp [intOf]; omega
    · obtain rfl : k = 16 := by omega
      go_wp2_with fail
      go_ret
      exact ⟨rfl, hT, hB⟩
set_option maxRecDepth 8000 in
set_option maxHeartbeats 2000000 in
theorem update_any (w : World) (n : Nat) (hn : n < 4294967296) (s : ByteArray) (hs : s.size ≤ 1000000000000) : Calls Tryz.prog 69 #[.int .u32 n, .string s] w fun e w' => e = .returned (.int .u32 (crcU n (Lb s))) ∧ Below w.heap.size w w' := by
  have hn0 := not32 n hn
  obtain ⟨r0, hr0⟩ : ∃ r, r = 4294967295 - n := ⟨_, rfl⟩
  rw [← hr0] at hn0
  have hr0b : r0 < 4294967296 := by omega
  have HR0 := Lib.hid hr0
  clear hr0
  go_enter Tryz.func69, Tryz.ntmps69
  go_wp2_with fail
  refine (table_any w).mono ?_
  rintro e w1 ⟨rfl, hT, hB1⟩
  obtain ⟨cap, w2, hconv, hcap, hsz, hk, hbytes, hfz⟩ := to_bytes (P := Tryz.prog) Tryz.underlying9 Tryz.underlying182 Tryz.underlying5 w1 s
  have hB2 : Below w.heap.size w w2 := hB1.trans (hk.below hB1.size (fun _ h => h.elim))
  have hbt : w.heap.size < w1.heap.size := by
    obtain ⟨cs, t, hblk, _⟩ := hT
    exact (Array.getElem?_eq_some_iff.1 hblk).1
  have hT2 : TabIs w2 w.heap.size 16 := by
    obtain ⟨cs, t, hblk, h2⟩ := hT
    exact ⟨cs, t, hk.grownTo hblk (fun h => h), h2⟩
  have HZ := Lib.hid hsz
  clear hT hsz hk hfz
  obtain ⟨b1, hb1⟩ : ∃ b, w1.heap.size = b := ⟨_, rfl⟩
  rw [hb1] at hconv hbytes
  go_wp2_with fail
  go_loopw [6, 15] (fun r i wr => ∃ (k a : Nat), k ≤ s.size ∧ a < 4294967296 ∧ r = .int .u32 a ∧ i = .int .i64 k ∧ wr = w2 ∧ Hid (a = ((Lb s).take k).foldl (fun r c => crcS r c.toNat) r0)) (fun _ i _ => s.size - (intOf i).toNat)
  case atStart => exact ⟨0, r0, Nat.zero_le _, hr0b, rfl, rfl, rfl, Lib.hid rfl⟩
  case round =>
    obtain ⟨k, a, hks, ha, rfl, rfl, rfl, hA⟩ := hrel
    by_cases hlt : k < s.size
    · have d0 : decide ((k : Int) < (s.size : Int)) = true := by simp; omega
      have hkl : k < (Lb s).length := by rw [Lb_len]; omega
      obtain ⟨c, hc⟩ : ∃ c, c = ((Lb s)[k]'hkl).toNat := ⟨_, rfl⟩
      have hcell : wr.cell? ⟨b1, k, none⟩ = some (.int .u8 c) := by
        have := hbytes k ((Lb s)[k]'hkl) (by rw [Lb_at]; exact List.getElem?_eq_getElem hkl)
        rw [Nat.zero_add] at this
        rw [this, hc]
      have hc256 : c < 256 := by rw [hc]; exact UInt8.toNat_lt _
      have HA2 : Hid (crcS a c = ((Lb s).take (k + 1)).foldl (fun r c => crcS r c.toNat) r0) := Lib.hid (by
        rw [List.take_succ_eq_append_getElem hkl, List.foldl_append, ← hA.out, hc]
        rfl)
      clear hc
      have hxl : ∀ x y : Nat, x < 256 → y < 256 → x ^^^ y < 256 := fun x y hx hy => Nat.xor_lt_two_pow (n := 8) hx hy
      have hxw : ∀ x y : Nat, x < 4294967296 → y < 4294967296 → x ^^^ y < 4294967296 := fun x y hx hy => Nat.xor_lt_two_pow (n := 32) hx hy
      obtain ⟨p, hp⟩ : ∃ p, p = a % 256 ^^^ c := ⟨_, rfl⟩
      have hpb : p < 256 := by rw [hp]; exact hxl _ _ (by omega) hc256
      have e1 : bits .xor .u8 ((a : Int) % 256) (c : Int) = (p : Int) := by rw [hp]; exact Go.u8_xor_nat (a % 256) c (by omega) hc256
      obtain ⟨x, hx⟩ : ∃ x, x = p % 16 := ⟨_, rfl⟩
      have e2 : bits .and .u8 (p : Int) 15 = (x : Int) := by rw [hx]; exact and15 p hpb
      have hxb : x < 16 := by omega
      obtain ⟨t, ht⟩ : ∃ t, t = tabN x := ⟨_, rfl⟩
      have htb : t < 4294967296 := by rw [ht]; exact tabN_lt hxb
      have c1 : wr.cell? ⟨w.heap.size, x, none⟩ = some (.int .u32 t) := by
        obtain ⟨cs, ty, hblk, hcs, hcl⟩ := hT2
        rw [cell_of_row wr _ x _ _ _ hblk, hcl x hxb, if_pos hxb, ht]
      obtain ⟨r1, hr1⟩ : ∃ r1, r1 = t ^^^ a / 16 := ⟨_, rfl⟩
      have hr1b : r1 < 4294967296 := by rw [hr1]; exact hxw _ _ htb (by omega)
      have e3 : bits .xor .u32 (t : Int) ((a : Int) / 16) = (r1 : Int) := by rw [hr1]; exact Go.u32_xor_nat t (a / 16) htb (by omega)
      obtain ⟨p2, hp2⟩ : ∃ p, p = r1 % 256 ^^^ c / 16 := ⟨_, rfl⟩
      have hpb2 : p2 < 256 := by rw [hp2]; exact hxl _ _ (by omega) (by omega)
      have e4 : bits .xor .u8 ((r1 : Int) % 256) ((c : Int) / 16) = (p2 : Int) := by rw [hp2]; exact Go.u8_xor_nat (r1 % 256) (c / 16) (by omega) (by omega)
      obtain ⟨x2, hx2⟩ : ∃ x, x = p2 % 16 := ⟨_, rfl⟩
      have e5 : bits .and .u8 (p2 : Int) 15 = (x2 : Int) := by rw [hx2]; exact and15 p2 hpb2
      have hxb2 : x2 < 16 := by omega
      obtain ⟨t2, ht2⟩ : ∃ t, t = tabN x2 := ⟨_, rfl⟩
      have htb2 : t2 < 4294967296 := by rw [ht2]; exact tabN_lt hxb2
      have c2 : wr.cell? ⟨w.heap.size, x2, none⟩ = some (.int .u32 t2) := by
        obtain ⟨cs, ty, hblk, hcs, hcl⟩ := hT2
        rw [cell_of_row wr _ x2 _ _ _ hblk, hcl x2 hxb2, if_pos hxb2, ht2]
      obtain ⟨r2, hr2⟩ : ∃ r2, r2 = t2 ^^^ r1 / 16 := ⟨_, rfl⟩
      have hr2b : r2 < 4294967296 := by rw [hr2]; exact hxw _ _ htb2 (by omega)
      have e6 : bits .xor .u32 (t2 : Int) ((r1 : Int) / 16) = (r2 : Int) := by rw [hr2]; exact Go.u32_xor_nat t2 (r1 / 16) htb2 (by omega)
      have HS : Hid (r2 = crcS a c) := Lib.hid (by rw [hr2, ht2, hx2, hp2, hr1, ht, hx, hp]; rfl)
      clear hp hx ht hr1 hp2 hx2 ht2 hr2 hxl hxw
      go_wp2_with fail
      go_roundw
      case rel => exact ⟨k + 1, r2, by omega, hr2b, rfl, by go_num, trivial, Lib.hid (by rw [HS.out, HA2.out])⟩
      case measure => simp [intOf]; omega
    · have d0 : decide ((k : Int) < (s.size : Int)) = false := by simp; omega
      have hn1 := not32 a ha
      have HR : Hid (crcU n (Lb s) = 4294967295 - a) := Lib.hid (by unfold crcU; rw [← HR0.out, hA.out, List.take_of_length_le (by rw [Lb_len]; omega)])
      rw [← HR.out] at hn1
      go_wp2_with fail
      go_ret
      exact ⟨rfl, hB2⟩
set_option maxHeartbeats 2000000 in
theorem sum_any (w : World) (s : ByteArray) (hs : s.size ≤ 1000000000000) : Calls Tryz.prog 70 #[.string s] w fun e w' => e = .returned (.int .u32 (crcU 0 (Lb s))) ∧ Below w.heap.size w w' := by
  have hu := update_any w 0 (by decide) s hs
  have HU := Lib.hid hu
  clear hu
  go_enter Tryz.func70, Tryz.ntmps70
  go_wp2_with fail
  refine HU.out.mono ?_
  rintro e w1 ⟨rfl, hB⟩
  go_wp2_with fail
  go_ret
  exact ⟨rfl, hB⟩
end Go.Proofs.YtoegdpcfhmjnaaaGreatDoor

namespace Go.Proofs.YtoegdpcfhmjnaaaGreatDoor
open Go.RowKit Go.Bl
attribute [local go_sem ↓] Go.wp_at_zero Go.wp_at_succ

theorem nonempty_of {p : ByteArray} (h0 : 0 < p.size) : p.toList.isEmpty = false := by
  cases h : p.toList.isEmpty with
  | false => rfl
  | true =>
    have e : p.toList = [] := List.isEmpty_iff.1 h
    have e2 : (⟨#[]⟩ : ByteArray).toList = [] := by rw [ByteArray.toList_eq]
    have e3 : p = ⟨#[]⟩ := bytes_extB (by rw [e, e2])
    rw [e3] at h0
    exact absurd h0 (by decide)
set_option maxRecDepth 8000 in
set_option maxHeartbeats 2000000 in
theorem framePut_any (w : World) (p : ByteArray) (h0 : 0 < p.size) (h1 : p.size ≤ 8000) : Calls Tryz.prog 53 #[.string p] w fun e w' => e = .returned (.tuple #[.string (Bl (frmL crcU (Lb p))), .int .i64 0]) ∧ Below w.heap.size w w' := by
  obtain ⟨n, hn⟩ : ∃ n, p.size = n := ⟨_, rfl⟩
  have hne := nonempty_of h0
  have hd : decide ((8000 : Int) < (n : Int)) = false := by simp; omega
  have hF : Bl (frmL crcU (Lb p)) = Bl (fixL n) ++ Bl (fixL (crcU (crcU 0 (fixL n)) (Lb p))) ++ p := by
    unfold frmL
    rw [Bl_append, Bl_append, Lb_len, hn]
    rfl
  have HF := Lib.hid hF
  have HN := Lib.hid hn
  have hn2 : n ≤ 8000 := by omega
  have h00 : 0 < n := by omega
  clear hF
  obtain ⟨f, hf⟩ : ∃ f : ByteArray, f = Bl (fixL n) := ⟨_, rfl⟩
  have hfs : f.size = 4 := by rw [hf]; rfl
  have c1 := fun W => fixed_any W n (by omega)
  have hLf : Lb f = fixL n := by rw [hf, Lb_Bl]
  have c2 := fun W => sum_any W f (by omega)
  have c3 := fun W => update_any W (crcU 0 (fixL n)) (crcU_lt _ _) p (by omega)
  have c4 := fun W => fixed_any W (crcU (crcU 0 (fixL n)) (Lb p)) (crcU_lt _ _)
  rw [hLf] at c2
  rw [← hf] at c1
  rw [← hf] at HF
  obtain ⟨g, hg⟩ : ∃ f : ByteArray, f = Bl (fixL (crcU (crcU 0 (fixL n)) (Lb p))) := ⟨_, rfl⟩
  have hgs : g.size = 4 := by rw [hg]; rfl
  rw [← hg] at c4 HF
  obtain ⟨a, ha⟩ : ∃ a, a = crcU 0 (fixL n) := ⟨_, rfl⟩
  rw [← ha] at c2 c3 c4
  obtain ⟨b, hb⟩ : ∃ b, b = crcU a (Lb p) := ⟨_, rfl⟩
  rw [← hb] at c3 c4
  have C1 := Lib.hid c1
  have C2 := Lib.hid c2
  have C3 := Lib.hid c3
  have C4 := Lib.hid c4
  have hs1 : ¬ 9223372036854775807 < f.size + g.size := by omega
  have hs2 : ¬ 9223372036854775807 < (f ++ g).size + p.size := by rw [ByteArray.size_append]; omega
  clear c1 c2 c3 c4 ha hb hf hg hLf hfs hgs
  go_enter Tryz.func53, Tryz.ntmps53
  go_wp2_with fail
  refine (C1.out _).mono ?_
  rintro e w1 ⟨rfl, hB1⟩
  go_wp2_with fail
  refine (C2.out _).mono ?_
  rintro e w2 ⟨rfl, hB2⟩
  go_wp2_with fail
  refine (C3.out _).mono ?_
  rintro e w3 ⟨rfl, hB3⟩
  go_wp2_with fail
  refine (C4.out _).mono ?_
  rintro e w4 ⟨rfl, hB4⟩
  go_wp2_with fail
  go_ret2
  rw [HF.out]
  exact ⟨rfl, ((hB1.trans (hB2.mono hB1.size)).trans (hB3.mono (Nat.le_trans hB1.size hB2.size))).trans (hB4.mono (Nat.le_trans (Nat.le_trans hB1.size hB2.size) hB3.size))⟩
set_option maxRecDepth 8000 in
set_option maxHeartbeats 2000000 in
theorem frameTake_any (w : World) (s : ByteArray) (hs : s.size ≤ 1000000000000) : Calls Tryz.prog 84 #[.string s] w fun e w' => e = .returned (.tuple #[.string (Bl (tkF crcU (Lb s)).1), .string (Bl (tkF crcU (Lb s)).2.1), .int .i64 (tkF crcU (Lb s)).2.2]) ∧ Below w.heap.size w w' := by
  by_cases h8 : s.size < 8
  · have d8 : decide ((s.size : Int) < 8) = true := by simp; omega
    have hR : tkF crcU (Lb s) = ([], [], 3) := by unfold tkF; rw [if_pos (by rw [Lb_len]; exact h8)]
    have HR := Lib.hid hR
    clear hR
    go_enter Tryz.func84, Tryz.ntmps84
    go_wp2_with fail
    go_ret3
    rw [HR.out]
    exact ⟨rfl, Below.refl _ _⟩
  · have d8 : decide ((s.size : Int) < 8) = false := by simp; omega
    obtain ⟨n, hn⟩ : ∃ n, n = unfix ((Lb s).take 4) := ⟨_, rfl⟩
    obtain ⟨c, hc⟩ : ∃ n, n = unfix (((Lb s).drop 4).take 4) := ⟨_, rfl⟩
    have hnb : n < 4294967296 := by rw [hn]; exact unfix_lt _
    have hcb : c < 4294967296 := by rw [hc]; exact unfix_lt _
    obtain ⟨r, hr⟩ : ∃ r : ByteArray, r = Bl ((Lb s).drop 4) := ⟨_, rfl⟩
    obtain ⟨r2, hr2⟩ : ∃ r : ByteArray, r = Bl ((Lb s).drop 8) := ⟨_, rfl⟩
    have hrs : r.size = s.size - 4 := by rw [hr, Bl_size, List.length_drop, Lb_len]
    have hrs2 : r2.size = s.size - 8 := by rw [hr2, Bl_size, List.length_drop, Lb_len]
    have t1 := takeFixed_any w s (by omega) hs
    rw [← hn, ← hr] at t1
    have t2 : ∀ W, Calls Tryz.prog _ #[.string r] W _ := fun W => takeFixed_any W r (by omega) (by omega)
    have e1 : Lb r = (Lb s).drop 4 := by rw [hr, Lb_Bl]
    rw [e1, ← hc, List.drop_drop, ← hr2] at t2
    have HT1 := Lib.hid t1
    have HT2 := Lib.hid t2
    have HR2 := Lib.hid hrs2
    have HN := Lib.hid hn
    have HC := Lib.hid hc
    have HRR := Lib.hid hr2
    have hle : r2.size ≤ s.size := by omega
    clear t1 t2 hrs hrs2 hn hc hr hr2 e1
    go_enter Tryz.func84, Tryz.ntmps84
    obtain ⟨P, hP⟩ : ∃ P : ByteArray, P = r2.extract 0 n := ⟨_, rfl⟩
    obtain ⟨R, hR⟩ : ∃ P : ByteArray, P = r2.extract n r2.size := ⟨_, rfl⟩
    obtain ⟨Q, hQ⟩ : ∃ P : ByteArray, P = s.extract 0 4 := ⟨_, rfl⟩
    have LP : Lb P = ((Lb s).drop 8).take n := by rw [hP, ext_head, Lb_Bl, HRR.out, Lb_Bl]
    have LR : Lb R = ((Lb s).drop 8).drop n := by rw [hR, ext_tail, Lb_Bl, HRR.out, Lb_Bl]
    have LQ : Lb Q = (Lb s).take 4 := by rw [hQ, ext_head, Lb_Bl]
    have HLP := Lib.hid LP
    have HLR := Lib.hid LR
    have HLQ := Lib.hid LQ
    have hPs : P.size ≤ s.size := by rw [← Lb_len, LP]; simp [Lb_len]; omega
    have hQs : Q.size ≤ s.size := by rw [← Lb_len, LQ]; simp [Lb_len]; omega
    have xP := hP.symm
    have xR := hR.symm
    have xQ := hQ.symm
    clear LP LR LQ hP hR hQ
    have HD : Hid (tkF crcU (Lb s) = if n = 0 then ([], [], 2) else if 8000 < n then ([], [], 4) else if r2.size < n then ([], [], 3) else if crcU (crcU 0 (Lb Q)) (Lb P) ≠ c then ([], [], 5) else (Lb P, Lb R, 0)) := Lib.hid (by
      unfold tkF
      rw [if_neg (by rw [Lb_len]; exact h8), ← HN.out, ← HC.out, ← HLQ.out, ← HLP.out, ← HLR.out, HR2.out, Lb_len])
    by_cases n0 : n = 0
    · have dn : ((n : Int) == 0) = true := by rw [beq_iff_eq]; omega
      have HR : Hid (tkF crcU (Lb s) = ([], [], 2)) := Lib.hid (by rw [HD.out, if_pos n0])
      clear n0
      go_wp2_with fail
      refine HT1.out.mono ?_
      rintro e w1 ⟨rfl, hB1⟩
      go_wp2_with fail
      refine (HT2.out w1).mono ?_
      rintro e w2 ⟨rfl, hB2⟩
      go_wp2_with fail
      go_ret3
      rw [HR.out]
      exact ⟨rfl, hB1.trans (hB2.mono hB1.size)⟩
    · have dn : ((n : Int) == 0) = false := by rw [beq_eq_false_iff_ne]; omega
      by_cases nb : 8000 < n
      · have HR : Hid (tkF crcU (Lb s) = ([], [], 4)) := Lib.hid (by rw [HD.out, if_neg n0, if_pos nb])
        go_wp2_with fail
        refine HT1.out.mono ?_
        rintro e w1 ⟨rfl, hB1⟩
        go_wp2_with fail
        refine (HT2.out w1).mono ?_
        rintro e w2 ⟨rfl, hB2⟩
        go_wp2_with fail
        go_ret3
        rw [HR.out]
        exact ⟨rfl, hB1.trans (hB2.mono hB1.size)⟩
      · by_cases nr : r2.size < n
        · have dr : decide (r2.size < n) = true := by simp; omega
          have HR : Hid (tkF crcU (Lb s) = ([], [], 3)) := Lib.hid (by rw [HD.out, if_neg n0, if_neg nb, if_pos nr])
          go_wp2_with fail
          refine HT1.out.mono ?_
          rintro e w1 ⟨rfl, hB1⟩
          go_wp2_with fail
          refine (HT2.out w1).mono ?_
          rintro e w2 ⟨rfl, hB2⟩
          go_wp2_with fail
          go_ret3
          rw [HR.out]
          exact ⟨rfl, hB1.trans (hB2.mono hB1.size)⟩
        · have dr : decide (r2.size < n) = false := by simp; omega
          have c1 := fun W => sum_any W Q (by omega)
          have c2 := fun W => update_any W (crcU 0 (Lb Q)) (crcU_lt _ _) P (by omega)
          obtain ⟨a, ha⟩ : ∃ a, a = crcU 0 (Lb Q) := ⟨_, rfl⟩
          rw [← ha] at c1 c2 HD
          obtain ⟨b, hb⟩ : ∃ b, b = crcU a (Lb P) := ⟨_, rfl⟩
          rw [← hb] at c2 HD
          have C1 := Lib.hid c1
          have C2 := Lib.hid c2
          have hnr2 : n ≤ r2.size := by omega
          clear c1 c2 ha hb nr
          go_wp2_with fail
          refine HT1.out.mono ?_
          rintro e w1 ⟨rfl, hB1⟩
          go_wp2_with fail
          refine (HT2.out w1).mono ?_
          rintro e w2 ⟨rfl, hB2⟩
          go_wp2_with fail
          go_quiet (fail)
          have hB3 : Below w.heap.size w (w2.drewN nq) := (hB1.trans (hB2.mono hB1.size)).trans ⟨rfl, rfl, rfl, Nat.le_refl _, fun _ _ => rfl⟩
          generalize w2.drewN nq = w3 at hB3 ⊢
          by_cases hbc : b = c
          · have HR : Hid (tkF crcU (Lb s) = (Lb P, Lb R, 0)) := Lib.hid (by rw [HD.out, if_neg n0, if_neg nb, if_neg (by omega), if_neg (by rw [hbc]; simp)])
            have db : ((b : Int) != (c : Int)) = false := by simp; omega
            clear hbc n0
            go_wp2_with fail
            refine (C1.out _).mono ?_
            rintro e w4 ⟨rfl, hB4⟩
            go_wp2_with fail
            refine (C2.out _).mono ?_
            rintro e w5 ⟨rfl, hB5⟩
            go_wp2_with fail
            go_ret3
            rw [HR.out]
            exact ⟨rfl, (hB3.trans (hB4.mono hB3.size)).trans (hB5.mono (Nat.le_trans hB3.size hB4.size))⟩
          · have HR : Hid (tkF crcU (Lb s) = ([], [], 5)) := Lib.hid (by rw [HD.out, if_neg n0, if_neg nb, if_neg (by omega), if_pos hbc])
            have db : ((b : Int) != (c : Int)) = true := by simp; omega
            clear hbc n0
            go_wp2_with fail
            refine (C1.out _).mono ?_
            rintro e w4 ⟨rfl, hB4⟩
            go_wp2_with fail
            refine (C2.out _).mono ?_
            rintro e w5 ⟨rfl, hB5⟩
            go_wp2_with fail
            go_ret3
            rw [HR.out]
            exact ⟨rfl, (hB3.trans (hB4.mono hB3.size)).trans (hB5.mono (Nat.le_trans hB3.size hB4.size))⟩
end Go.Proofs.YtoegdpcfhmjnaaaGreatDoor
