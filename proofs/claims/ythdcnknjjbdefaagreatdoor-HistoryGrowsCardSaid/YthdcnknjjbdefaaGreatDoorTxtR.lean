/- The document's answer to names: size, Runes, Name (bucketlineref1). Under the stated premises on sizes. -/
import Derived.Test.YthdcnknjjbdefaaGreatDoorTxtA
import Derived.Test.YthdcnknjjbdefaaGreatDoorBlI
import Derived.Test.YthdcnknjjbdefaaGreatDoorBlL
namespace Go.Proofs.YthdcnknjjbdefaaGreatDoor
open Go.RowKit Go.Bl Go.Shelf
attribute [local go_sem ↓] Go.wp_at_zero Go.wp_at_succ

/-- How many bytes the rune has that stands at a place, and its number; 1 and -1: none stands there. -/
def sizeI (s : ByteArray) (i : Nat) : Int × Int := if wrongB s i = true then (1, -1) else ((Utf8.decode s i).2, (Utf8.decode s i).1)
theorem wrong_tail (s : ByteArray) (i : Nat) : wrongB (s.extract i s.size) 0 = wrongB s i := by
  unfold wrongB
  rw [show Utf8.decode (s.extract i s.size) 0 = Utf8.decode s i from Lib.tail_decode s i 0]
theorem sizeI_tail (s : ByteArray) (i : Nat) : sizeI (s.extract i s.size) 0 = sizeI s i := by
  unfold sizeI
  rw [wrong_tail, show Utf8.decode (s.extract i s.size) 0 = Utf8.decode s i from Lib.tail_decode s i 0]

def bAt (s : ByteArray) (k : Nat) : Nat := (s.get! k).toNat
theorem bAt_of {s : ByteArray} {k : Nat} (h : k < s.size) : bAt s k = (s[k]'h).toNat := by
  obtain ⟨bs⟩ := s
  show (bs[k]!).toNat = (bs[k]'h).toNat
  rw [getElem!_pos bs k h]
def contB (s : ByteArray) (k : Nat) : Bool := decide (k < s.size) && decide (128 ≤ bAt s k) && decide (bAt s k < 192)
theorem contB_of {s : ByteArray} {k : Nat} (h : k < s.size) (h1 : (128 : Int) ≤ (s[k]'h).toNat) (h2 : ((s[k]'h).toNat : Int) < 192) : contB s k = true := by
  simp only [contB, bAt_of h, Bool.and_eq_true, decide_eq_true_eq]; omega
/-- The number that the first k bytes make. -/
def valI (s : ByteArray) (l : Int) : Nat → Int
  | 0 => l
  | 1 => l
  | k + 2 => valI s l (k + 1) * 64 + bAt s (k + 1) - 128
theorem valI_succ (s : ByteArray) (l : Int) {k : Nat} (h1 : 1 ≤ k) (h : k < s.size) : valI s l (k + 1) = valI s l k * 64 + (s[k]'h).toNat - 128 := by
  obtain ⟨k, rfl⟩ : ∃ j, k = j + 1 := ⟨k - 1, by omega⟩
  rw [← bAt_of h]; rfl
theorem valI_1 (s : ByteArray) (l : Int) : valI s l 1 = l := rfl
theorem valI_2 (s : ByteArray) (l : Int) : valI s l 2 = l * 64 + bAt s 1 - 128 := rfl
theorem valI_3 (s : ByteArray) (l : Int) : valI s l 3 = (l * 64 + bAt s 1 - 128) * 64 + bAt s 2 - 128 := rfl
theorem valI_4 (s : ByteArray) (l : Int) : valI s l 4 = ((l * 64 + bAt s 1 - 128) * 64 + bAt s 2 - 128) * 64 + bAt s 3 - 128 := rfl
theorem valI_bd (s : ByteArray) (l : Int) (hl : 0 ≤ l ∧ l < 32) (k : Nat) (hk : k ≤ 4) (hc : ∀ j, 1 ≤ j → j < k → contB s j = true) : 0 ≤ valI s l k ∧ valI s l k < 8388608 := by
  have f : ∀ j, 1 ≤ j → j < k → 128 ≤ bAt s j ∧ bAt s j < 192 := fun j a b => by
    have := hc j a b
    simp only [contB, Bool.and_eq_true, decide_eq_true_eq] at this
    omega
  rcases (by omega : k = 0 ∨ k = 1 ∨ k = 2 ∨ k = 3 ∨ k = 4) with rfl | rfl | rfl | rfl | rfl
  · simp only [valI]; omega
  · simp only [valI]; omega
  · have := f 1 (by omega) (by omega)
    rw [valI_2]; omega
  · have := f 1 (by omega) (by omega)
    have := f 2 (by omega) (by omega)
    rw [valI_3]; omega
  · have := f 1 (by omega) (by omega)
    have := f 2 (by omega) (by omega)
    have := f 3 (by omega) (by omega)
    rw [valI_4]; omega

theorem dec_ascii {s : ByteArray} (h : bAt s 0 < 128) : sizeI s 0 = ((1 : Int), (bAt s 0 : Int)) := by
  have e : Utf8.decode s 0 = (bAt s 0, 1) := by
    unfold Utf8.decode bAt at *
    simp only [Nat.zero_add]
    rw [if_pos h]
  unfold sizeI wrongB
  rw [e, if_neg (by simp; omega)]
  rfl
theorem dec_bad {s : ByteArray} (h : Utf8.decode s 0 = (65533, 1)) : sizeI s 0 = (1, -1) := by
  unfold sizeI wrongB
  rw [h, if_pos (by simp)]
theorem dec_good {s : ByteArray} {c n : Nat} (h : Utf8.decode s 0 = (c, n)) (hn : n ≠ 1) : sizeI s 0 = ((n : Int), (c : Int)) := by
  unfold sizeI wrongB
  rw [h, if_neg (by simp; omega)]
theorem cont_iff (s : ByteArray) (k : Nat) : (decide (0 + k < s.size) && (s.get! (0 + k)).toNat / 64 == 2) = contB s k := by
  unfold contB bAt
  rw [Nat.zero_add, Bool.eq_iff_iff]
  simp only [Bool.and_eq_true, decide_eq_true_eq, beq_iff_eq]
  omega
/-- The model's decoding at the first byte, with the words above. -/
theorem decode_zero (s : ByteArray) : Utf8.decode s 0 =
    if bAt s 0 < 128 then (bAt s 0, 1)
    else if (bAt s 0 / 32 == 6 && contB s 1) = true then
      if (bAt s 0 % 32) * 64 + bAt s 1 % 64 ≥ 128 then ((bAt s 0 % 32) * 64 + bAt s 1 % 64, 2) else (65533, 1)
    else if (bAt s 0 / 16 == 14 && contB s 1 && contB s 2) = true then
      if ((bAt s 0 % 16) * 4096 + (bAt s 1 % 64) * 64 + bAt s 2 % 64 ≥ 2048 && Utf8.valid ((bAt s 0 % 16) * 4096 + (bAt s 1 % 64) * 64 + bAt s 2 % 64 : Nat)) = true then ((bAt s 0 % 16) * 4096 + (bAt s 1 % 64) * 64 + bAt s 2 % 64, 3) else (65533, 1)
    else if (bAt s 0 / 8 == 30 && contB s 1 && contB s 2 && contB s 3) = true then
      if ((bAt s 0 % 8) * 262144 + (bAt s 1 % 64) * 4096 + (bAt s 2 % 64) * 64 + bAt s 3 % 64 ≥ 65536 && Utf8.valid ((bAt s 0 % 8) * 262144 + (bAt s 1 % 64) * 4096 + (bAt s 2 % 64) * 64 + bAt s 3 % 64 : Nat)) = true then ((bAt s 0 % 8) * 262144 + (bAt s 1 % 64) * 4096 + (bAt s 2 % 64) * 64 + bAt s 3 % 64, 4) else (65533, 1)
    else (65533, 1) := by
  rw [← cont_iff s 1, ← cont_iff s 2, ← cont_iff s 3]
  unfold Utf8.decode bAt
  simp only [Nat.zero_add, Utf8.runeError]

/-- A first byte b tells of n bytes, from the number least on, and d is its mark. -/
def Cls (b n least d : Nat) : Prop := (n = 2 ∧ least = 128 ∧ d = 192 ∧ 192 ≤ b ∧ b < 224) ∨ (n = 3 ∧ least = 2048 ∧ d = 224 ∧ 224 ≤ b ∧ b < 240) ∨ (n = 4 ∧ least = 65536 ∧ d = 240 ∧ 240 ≤ b ∧ b < 248)
theorem contB_at {s : ByteArray} {j : Nat} (h : contB s j = true) : j < s.size ∧ 128 ≤ bAt s j ∧ bAt s j < 192 := by
  simp only [contB, Bool.and_eq_true, decide_eq_true_eq] at h
  omega
theorem sizeI_lead {s : ByteArray} (h : (128 ≤ bAt s 0 ∧ bAt s 0 < 192) ∨ 248 ≤ bAt s 0) : sizeI s 0 = (1, -1) := by
  refine dec_bad ?_
  rw [decode_zero, if_neg (by omega), if_neg (by simp; omega), if_neg (by simp; omega), if_neg (by simp; omega)]
theorem sizeI_short {s : ByteArray} {n least d j : Nat} (h : Cls (bAt s 0) n least d) (h1 : 1 ≤ j) (h2 : j < n) (hc : contB s j = false) : sizeI s 0 = (1, -1) := by
  refine dec_bad ?_
  rw [decode_zero]
  rcases h with ⟨rfl, _, _, a, b⟩ | ⟨rfl, _, _, a, b⟩ | ⟨rfl, _, _, a, b⟩
  · obtain rfl : j = 1 := by omega
    rw [if_neg (by omega), if_neg (by simp [hc]), if_neg (by simp; omega), if_neg (by simp; omega)]
  · rw [if_neg (by omega), if_neg (by simp; omega), if_neg (by
      rcases (by omega : j = 1 ∨ j = 2) with rfl | rfl <;> simp [hc]), if_neg (by simp; omega)]
  · rw [if_neg (by omega), if_neg (by simp; omega), if_neg (by simp; omega), if_neg (by
      rcases (by omega : j = 1 ∨ j = 2 ∨ j = 3) with rfl | rfl | rfl <;> simp [hc])]
theorem valid_iff (c : Nat) : Utf8.valid (c : Int) = true ↔ c < 55296 ∨ (57344 ≤ c ∧ c ≤ 1114111) := by
  simp only [Utf8.valid, Bool.or_eq_true, Bool.and_eq_true, decide_eq_true_eq]
  omega
theorem sizeI_val {s : ByteArray} {n least d : Nat} (h : Cls (bAt s 0) n least d) (hc : ∀ j, 1 ≤ j → j < n → contB s j = true) {v : Int} (hv : valI s ((bAt s 0 : Int) - d) n = v) :
    sizeI s 0 = if v < least ∨ 1114111 < v ∨ (55296 ≤ v ∧ v ≤ 57343) then (1, -1) else ((n : Int), v) := by
  rcases h with ⟨rfl, rfl, rfl, a, b⟩ | ⟨rfl, rfl, rfl, a, b⟩ | ⟨rfl, rfl, rfl, a, b⟩
  · have c1 := contB_at (hc 1 (by omega) (by omega))
    rw [valI_2] at hv
    have hd := decode_zero s
    rw [if_neg (by omega), if_pos (by simp [hc 1]; omega)] at hd
    obtain ⟨c, hcc⟩ : ∃ c, bAt s 0 % 32 * 64 + bAt s 1 % 64 = c := ⟨_, rfl⟩
    rw [hcc] at hd
    have e : v = (c : Int) := by omega
    subst e
    by_cases hl : c ≥ 128
    · rw [if_pos hl] at hd
      rw [if_neg (by omega), dec_good hd (by omega)]
    · rw [if_neg hl] at hd
      rw [if_pos (by omega), dec_bad hd]
  · have c1 := contB_at (hc 1 (by omega) (by omega))
    have c2 := contB_at (hc 2 (by omega) (by omega))
    rw [valI_3] at hv
    have hd := decode_zero s
    rw [if_neg (by omega), if_neg (by simp; omega), if_pos (by simp [hc 1, hc 2]; omega)] at hd
    obtain ⟨c, hcc⟩ : ∃ c, bAt s 0 % 16 * 4096 + bAt s 1 % 64 * 64 + bAt s 2 % 64 = c := ⟨_, rfl⟩
    rw [hcc] at hd
    have e : v = (c : Int) := by omega
    subst e
    by_cases hl : c ≥ 2048 ∧ Utf8.valid (c : Int) = true
    · rw [if_pos (by simp [hl.1, hl.2])] at hd
      have := (valid_iff c).1 hl.2
      rw [if_neg (by omega), dec_good hd (by omega)]
    · rw [if_neg (by simpa using hl)] at hd
      rw [valid_iff] at hl
      rw [if_pos (by omega), dec_bad hd]
  · have c1 := contB_at (hc 1 (by omega) (by omega))
    have c2 := contB_at (hc 2 (by omega) (by omega))
    have c3 := contB_at (hc 3 (by omega) (by omega))
    rw [valI_4] at hv
    have hd := decode_zero s
    rw [if_neg (by omega), if_neg (by simp; omega), if_neg (by simp; omega), if_pos (by simp [hc 1, hc 2, hc 3]; omega)] at hd
    obtain ⟨c, hcc⟩ : ∃ c, bAt s 0 % 8 * 262144 + bAt s 1 % 64 * 4096 + bAt s 2 % 64 * 64 + bAt s 3 % 64 = c := ⟨_, rfl⟩
    rw [hcc] at hd
    have e : v = (c : Int) := by omega
    subst e
    by_cases hl : c ≥ 65536 ∧ Utf8.valid (c : Int) = true
    · rw [if_pos (by simp [hl.1, hl.2])] at hd
      have := (valid_iff c).1 hl.2
      rw [if_neg (by omega), dec_good hd (by omega)]
    · rw [if_neg (by simpa using hl)] at hd
      rw [valid_iff] at hl
      rw [if_pos (by omega), dec_bad hd]

set_option maxRecDepth 20000 in
set_option maxHeartbeats 4000000 in
theorem size_any (w : World) (s : ByteArray) (h0 : 0 < s.size) (hs : s.size ≤ 1000000000000000) :
    Calls Tryz.prog 81 #[.string s] w fun e w' => e = .returned (.tuple #[.int .i64 (sizeI s 0).1, .int .i64 (sizeI s 0).2]) ∧ w = w' := by
  have hlt := (s[0]'h0).toNat_lt
  have e0 := bAt_of h0
  have hc : ((s[0]'h0).toNat : Int) < 128 ∨ (128 ≤ ((s[0]'h0).toNat : Int) ∧ ((s[0]'h0).toNat : Int) < 192) ∨ (192 ≤ ((s[0]'h0).toNat : Int) ∧ ((s[0]'h0).toNat : Int) < 224) ∨ (224 ≤ ((s[0]'h0).toNat : Int) ∧ ((s[0]'h0).toNat : Int) < 240) ∨ (240 ≤ ((s[0]'h0).toNat : Int) ∧ ((s[0]'h0).toNat : Int) < 248) ∨ 248 ≤ ((s[0]'h0).toNat : Int) := by omega
  rcases hc with h | ⟨h1, h2⟩ | ⟨h1, h2⟩ | ⟨h1, h2⟩ | ⟨h1, h2⟩ | h1
  · have HR := Lib.hid (dec_ascii (s := s) (by omega))
    rw [e0] at HR
    clear e0
    go_enter Tryz.func81, Tryz.ntmps81
    go_wp2_with fail
    go_ret2
    exact ⟨by simp only [HR.out]; rfl, rfl⟩
  · have HR := Lib.hid (sizeI_lead (s := s) (by omega))
    clear e0
    go_enter Tryz.func81, Tryz.ntmps81
    go_wp2_with fail
    go_ret2
    exact ⟨by simp only [HR.out]; rfl, rfl⟩
  · go_enter Tryz.func81, Tryz.ntmps81
    have hcl : Cls (bAt s 0) 2 128 192 := by unfold Cls; omega
    have HCL := Lib.hid hcl
    clear hcl
    by_cases hsz : s.size < 2
    · have d1 : decide ((s.size : Int) < 2) = true := decide_eq_true (by omega)
      have hcf : contB s (2 - 1) = false := by
        cases hcc : contB s (2 - 1)
        · rfl
        · have := contB_at hcc; omega
      have HR := Lib.hid (sizeI_short HCL.out (by omega) (by omega) hcf)
      clear hcf hsz
      go_wp2_with fail
      go_ret2
      exact ⟨by simp only [HR.out]; rfl, rfl⟩
    have d1 : decide ((s.size : Int) < 2) = false := decide_eq_false (by omega)
    have hb0 := bAt_of h0
    have HB0 := Lib.hid hb0
    clear hb0
    go_wp2_with fail
    go_loop [7, 8] (fun v i => ∃ k : Nat, 1 ≤ k ∧ k ≤ 2 ∧ i = .int .i64 k ∧ v = .int .i64 (valI s (((s[0]'h0).toNat : Int) - 192) k) ∧ ∀ j, 1 ≤ j → j < k → contB s j = true) (fun _ i => 2 - (RowKit.intOf i).toNat)
    case atStart => exact ⟨1, Nat.le_refl _, by omega, rfl, rfl, fun j h1 h2 => by omega⟩
    case round =>
      obtain ⟨k, hk1, hk, rfl, rfl, hc⟩ := hrel
      have hbd := valI_bd s (((s[0]'h0).toNat : Int) - 192) (by omega) k (by omega) hc
      obtain ⟨x, hx⟩ : ∃ x : Int, valI s (((s[0]'h0).toNat : Int) - 192) k = x := ⟨_, rfl⟩
      have HC := Lib.hid hc
      have HX := Lib.hid hx
      rw [hx] at hbd ⊢
      clear hx hc
      by_cases hlt : k < 2
      · have hks : k < s.size := by omega
        have hb := (s[k]'hks).toNat_lt
        by_cases hcb : ((s[k]'hks).toNat : Int) < 128
        · have HR := Lib.hid (sizeI_short HCL.out hk1 hlt (by
            cases hcc : contB s k
            · rfl
            · have := contB_at hcc; have := bAt_of hks; omega))
          go_wp2_with fail
          go_ret2
          exact ⟨by simp only [HR.out]; rfl, rfl⟩
        · by_cases hcb2 : ((s[k]'hks).toNat : Int) < 192
          · have dk : decide ((s[k]'hks).toNat ≥ (192 : Int)) = false := decide_eq_false (by omega)
            go_wp2_with fail
            go_round
            case rel => exact ⟨k + 1, by omega, by omega, by go_num, by rw [valI_succ s _ hk1 hks, HX.out], fun j h1 h2 => by
              by_cases e : j = k
              · subst e; exact contB_of hks (by omega) (by omega)
              · exact HC.out j h1 (by omega)⟩
            case measure => simp [RowKit.intOf]; omega
          · have HR := Lib.hid (sizeI_short HCL.out hk1 hlt (by
              cases hcc : contB s k
              · rfl
              · have := contB_at hcc; have := bAt_of hks; omega))
            go_wp2_with fail
            go_ret2
            exact ⟨by simp only [HR.out]; rfl, rfl⟩
      · have hkd : k = 2 := by omega
        have HR : Hid (sizeI s 0 = if x < (128 : Nat) ∨ 1114111 < x ∨ (55296 ≤ x ∧ x ≤ 57343) then (1, -1) else (((2 : Nat) : Int), x)) := Lib.hid (sizeI_val HCL.out (by rw [← hkd]; exact HC.out) (by rw [HB0.out, ← hkd]; exact HX.out))
        clear hkd
        have dk : decide ((k : Int) < 2) = false := decide_eq_false (by omega)
        by_cases t1 : x < 128
        · have HQ := Lib.hid (HR.out.trans (if_pos (by omega)))
          go_wp2_with fail
          go_ret2
          exact ⟨by simp only [HQ.out]; rfl, rfl⟩
        · by_cases t2 : 1114111 < x
          · have HQ := Lib.hid (HR.out.trans (if_pos (by omega)))
            go_wp2_with fail
            go_ret2
            exact ⟨by simp only [HQ.out]; rfl, rfl⟩
          · by_cases t3 : 55296 ≤ x
            · by_cases t4 : x ≤ 57343
              · have HQ := Lib.hid (HR.out.trans (if_pos (by omega)))
                go_wp2_with fail
                go_ret2
                exact ⟨by simp only [HQ.out]; rfl, rfl⟩
              · have HQ := Lib.hid (HR.out.trans (if_neg (by omega)))
                go_wp2_with fail
                go_ret2
                exact ⟨by simp only [HQ.out]; rfl, rfl⟩
            · have HQ := Lib.hid (HR.out.trans (if_neg (by omega)))
              go_wp2_with fail
              go_ret2
              exact ⟨by simp only [HQ.out]; rfl, rfl⟩
  · go_enter Tryz.func81, Tryz.ntmps81
    have hcl : Cls (bAt s 0) 3 2048 224 := by unfold Cls; omega
    have HCL := Lib.hid hcl
    clear hcl
    by_cases hsz : s.size < 3
    · have d1 : decide ((s.size : Int) < 3) = true := decide_eq_true (by omega)
      have hcf : contB s (3 - 1) = false := by
        cases hcc : contB s (3 - 1)
        · rfl
        · have := contB_at hcc; omega
      have HR := Lib.hid (sizeI_short HCL.out (by omega) (by omega) hcf)
      clear hcf hsz
      go_wp2_with fail
      go_ret2
      exact ⟨by simp only [HR.out]; rfl, rfl⟩
    have d1 : decide ((s.size : Int) < 3) = false := decide_eq_false (by omega)
    have hb0 := bAt_of h0
    have HB0 := Lib.hid hb0
    clear hb0
    go_wp2_with fail
    go_loop [7, 8] (fun v i => ∃ k : Nat, 1 ≤ k ∧ k ≤ 3 ∧ i = .int .i64 k ∧ v = .int .i64 (valI s (((s[0]'h0).toNat : Int) - 224) k) ∧ ∀ j, 1 ≤ j → j < k → contB s j = true) (fun _ i => 3 - (RowKit.intOf i).toNat)
    case atStart => exact ⟨1, Nat.le_refl _, by omega, rfl, rfl, fun j h1 h2 => by omega⟩
    case round =>
      obtain ⟨k, hk1, hk, rfl, rfl, hc⟩ := hrel
      have hbd := valI_bd s (((s[0]'h0).toNat : Int) - 224) (by omega) k (by omega) hc
      obtain ⟨x, hx⟩ : ∃ x : Int, valI s (((s[0]'h0).toNat : Int) - 224) k = x := ⟨_, rfl⟩
      have HC := Lib.hid hc
      have HX := Lib.hid hx
      rw [hx] at hbd ⊢
      clear hx hc
      by_cases hlt : k < 3
      · have hks : k < s.size := by omega
        have hb := (s[k]'hks).toNat_lt
        by_cases hcb : ((s[k]'hks).toNat : Int) < 128
        · have HR := Lib.hid (sizeI_short HCL.out hk1 hlt (by
            cases hcc : contB s k
            · rfl
            · have := contB_at hcc; have := bAt_of hks; omega))
          go_wp2_with fail
          go_ret2
          exact ⟨by simp only [HR.out]; rfl, rfl⟩
        · by_cases hcb2 : ((s[k]'hks).toNat : Int) < 192
          · have dk : decide ((s[k]'hks).toNat ≥ (192 : Int)) = false := decide_eq_false (by omega)
            go_wp2_with fail
            go_round
            case rel => exact ⟨k + 1, by omega, by omega, by go_num, by rw [valI_succ s _ hk1 hks, HX.out], fun j h1 h2 => by
              by_cases e : j = k
              · subst e; exact contB_of hks (by omega) (by omega)
              · exact HC.out j h1 (by omega)⟩
            case measure => simp [RowKit.intOf]; omega
          · have HR := Lib.hid (sizeI_short HCL.out hk1 hlt (by
              cases hcc : contB s k
              · rfl
              · have := contB_at hcc; have := bAt_of hks; omega))
            go_wp2_with fail
            go_ret2
            exact ⟨by simp only [HR.out]; rfl, rfl⟩
      · have hkd : k = 3 := by omega
        have HR : Hid (sizeI s 0 = if x < (2048 : Nat) ∨ 1114111 < x ∨ (55296 ≤ x ∧ x ≤ 57343) then (1, -1) else (((3 : Nat) : Int), x)) := Lib.hid (sizeI_val HCL.out (by rw [← hkd]; exact HC.out) (by rw [HB0.out, ← hkd]; exact HX.out))
        clear hkd
        have dk : decide ((k : Int) < 3) = false := decide_eq_false (by omega)
        by_cases t1 : x < 2048
        · have HQ := Lib.hid (HR.out.trans (if_pos (by omega)))
          go_wp2_with fail
          go_ret2
          exact ⟨by simp only [HQ.out]; rfl, rfl⟩
        · by_cases t2 : 1114111 < x
          · have HQ := Lib.hid (HR.out.trans (if_pos (by omega)))
            go_wp2_with fail
            go_ret2
            exact ⟨by simp only [HQ.out]; rfl, rfl⟩
          · by_cases t3 : 55296 ≤ x
            · by_cases t4 : x ≤ 57343
              · have HQ := Lib.hid (HR.out.trans (if_pos (by omega)))
                go_wp2_with fail
                go_ret2
                exact ⟨by simp only [HQ.out]; rfl, rfl⟩
              · have HQ := Lib.hid (HR.out.trans (if_neg (by omega)))
                go_wp2_with fail
                go_ret2
                exact ⟨by simp only [HQ.out]; rfl, rfl⟩
            · have HQ := Lib.hid (HR.out.trans (if_neg (by omega)))
              go_wp2_with fail
              go_ret2
              exact ⟨by simp only [HQ.out]; rfl, rfl⟩
  · go_enter Tryz.func81, Tryz.ntmps81
    have hcl : Cls (bAt s 0) 4 65536 240 := by unfold Cls; omega
    have HCL := Lib.hid hcl
    clear hcl
    by_cases hsz : s.size < 4
    · have d1 : decide ((s.size : Int) < 4) = true := decide_eq_true (by omega)
      have hcf : contB s (4 - 1) = false := by
        cases hcc : contB s (4 - 1)
        · rfl
        · have := contB_at hcc; omega
      have HR := Lib.hid (sizeI_short HCL.out (by omega) (by omega) hcf)
      clear hcf hsz
      go_wp2_with fail
      go_ret2
      exact ⟨by simp only [HR.out]; rfl, rfl⟩
    have d1 : decide ((s.size : Int) < 4) = false := decide_eq_false (by omega)
    have hb0 := bAt_of h0
    have HB0 := Lib.hid hb0
    clear hb0
    go_wp2_with fail
    go_loop [7, 8] (fun v i => ∃ k : Nat, 1 ≤ k ∧ k ≤ 4 ∧ i = .int .i64 k ∧ v = .int .i64 (valI s (((s[0]'h0).toNat : Int) - 240) k) ∧ ∀ j, 1 ≤ j → j < k → contB s j = true) (fun _ i => 4 - (RowKit.intOf i).toNat)
    case atStart => exact ⟨1, Nat.le_refl _, by omega, rfl, rfl, fun j h1 h2 => by omega⟩
    case round =>
      obtain ⟨k, hk1, hk, rfl, rfl, hc⟩ := hrel
      have hbd := valI_bd s (((s[0]'h0).toNat : Int) - 240) (by omega) k (by omega) hc
      obtain ⟨x, hx⟩ : ∃ x : Int, valI s (((s[0]'h0).toNat : Int) - 240) k = x := ⟨_, rfl⟩
      have HC := Lib.hid hc
      have HX := Lib.hid hx
      rw [hx] at hbd ⊢
      clear hx hc
      by_cases hlt : k < 4
      · have hks : k < s.size := by omega
        have hb := (s[k]'hks).toNat_lt
        by_cases hcb : ((s[k]'hks).toNat : Int) < 128
        · have HR := Lib.hid (sizeI_short HCL.out hk1 hlt (by
            cases hcc : contB s k
            · rfl
            · have := contB_at hcc; have := bAt_of hks; omega))
          go_wp2_with fail
          go_ret2
          exact ⟨by simp only [HR.out]; rfl, rfl⟩
        · by_cases hcb2 : ((s[k]'hks).toNat : Int) < 192
          · have dk : decide ((s[k]'hks).toNat ≥ (192 : Int)) = false := decide_eq_false (by omega)
            go_wp2_with fail
            go_round
            case rel => exact ⟨k + 1, by omega, by omega, by go_num, by rw [valI_succ s _ hk1 hks, HX.out], fun j h1 h2 => by
              by_cases e : j = k
              · subst e; exact contB_of hks (by omega) (by omega)
              · exact HC.out j h1 (by omega)⟩
            case measure => simp [RowKit.intOf]; omega
          · have HR := Lib.hid (sizeI_short HCL.out hk1 hlt (by
              cases hcc : contB s k
              · rfl
              · have := contB_at hcc; have := bAt_of hks; omega))
            go_wp2_with fail
            go_ret2
            exact ⟨by simp only [HR.out]; rfl, rfl⟩
      · have hkd : k = 4 := by omega
        have HR : Hid (sizeI s 0 = if x < (65536 : Nat) ∨ 1114111 < x ∨ (55296 ≤ x ∧ x ≤ 57343) then (1, -1) else (((4 : Nat) : Int), x)) := Lib.hid (sizeI_val HCL.out (by rw [← hkd]; exact HC.out) (by rw [HB0.out, ← hkd]; exact HX.out))
        clear hkd
        have dk : decide ((k : Int) < 4) = false := decide_eq_false (by omega)
        by_cases t1 : x < 65536
        · have HQ := Lib.hid (HR.out.trans (if_pos (by omega)))
          go_wp2_with fail
          go_ret2
          exact ⟨by simp only [HQ.out]; rfl, rfl⟩
        · by_cases t2 : 1114111 < x
          · have HQ := Lib.hid (HR.out.trans (if_pos (by omega)))
            go_wp2_with fail
            go_ret2
            exact ⟨by simp only [HQ.out]; rfl, rfl⟩
          · by_cases t3 : 55296 ≤ x
            · by_cases t4 : x ≤ 57343
              · have HQ := Lib.hid (HR.out.trans (if_pos (by omega)))
                go_wp2_with fail
                go_ret2
                exact ⟨by simp only [HQ.out]; rfl, rfl⟩
              · have HQ := Lib.hid (HR.out.trans (if_neg (by omega)))
                go_wp2_with fail
                go_ret2
                exact ⟨by simp only [HQ.out]; rfl, rfl⟩
            · have HQ := Lib.hid (HR.out.trans (if_neg (by omega)))
              go_wp2_with fail
              go_ret2
              exact ⟨by simp only [HQ.out]; rfl, rfl⟩
  · have HR := Lib.hid (sizeI_lead (s := s) (by omega))
    clear e0
    go_enter Tryz.func81, Tryz.ntmps81
    go_wp2_with fail
    go_ret2
    exact ⟨by simp only [HR.out]; rfl, rfl⟩
theorem width_le (s : ByteArray) (i : Nat) : (Utf8.decode s i).2 ≤ 4 := by
  unfold Utf8.decode
  simp only []
  repeat' split
  all_goals simp
theorem sizeI_w (s : ByteArray) (i : Nat) : (sizeI s i).1 = ((Utf8.decode s i).2 : Int) := by
  unfold sizeI wrongB
  split
  · rename_i h
    simp only [Bool.and_eq_true, decide_eq_true_eq] at h
    rw [h.2]; rfl
  · rfl
def runesFrom (s : ByteArray) : Nat → Nat → List Int
  | 0, _ => []
  | f + 1, pos => if pos < s.size then (sizeI s pos).2 :: runesFrom s f (pos + (Utf8.decode s pos).2) else []
def runesI (s : ByteArray) : List Int := runesFrom s s.size 0
theorem runesFrom_end {s : ByteArray} {pos : Nat} (h : ¬ pos < s.size) (f : Nat) : runesFrom s f pos = [] := by
  cases f
  · rfl
  · unfold runesFrom
    rw [if_neg h]
/-- Is a rune's number one of names? -/
def okI (r : Int) : Bool := (decide (97 ≤ r) && decide (r ≤ 122)) || (decide (65 ≤ r) && decide (r ≤ 90)) || (decide (48 ≤ r) && decide (r ≤ 57)) || r == 45 || r == 95 || r == 46 || decide (160 ≤ r)
theorem okI_neg : okI (-1) = false := by decide
theorem okI_nat (n : Nat) : okI (n : Int) = namedB n := by
  unfold okI namedB
  rw [Bool.eq_iff_iff]
  simp only [Bool.or_eq_true, Bool.and_eq_true, decide_eq_true_eq, beq_iff_eq]
  omega
theorem nameFrom_eq (s : ByteArray) : ∀ (f pos n : Nat), s.size ≤ pos + f → n ≤ 32 → nameFrom s f pos n = (decide (1 ≤ n + (runesFrom s f pos).length) && decide (n + (runesFrom s f pos).length ≤ 32) && (runesFrom s f pos).all okI)
  | 0, pos, n, h, hn => by
    unfold nameFrom runesFrom
    rw [Bool.eq_iff_iff]
    simp; omega
  | f + 1, pos, n, h, hn => by
    by_cases hp : pos < s.size
    · have hw := Lib.decode_width_pos s pos hp
      have ih := nameFrom_eq s f (pos + (Utf8.decode s pos).2) (n + 1) (by omega)
      unfold nameFrom runesFrom
      rw [if_pos hp, if_pos hp, List.length_cons, List.all_cons]
      by_cases h32 : 32 < n + 1
      · rw [if_pos h32, decide_eq_false (p := n + ((runesFrom s f (pos + (Utf8.decode s pos).2)).length + 1) ≤ 32) (by omega), Bool.and_false, Bool.false_and]
      · rw [if_neg h32]
        cases hwr : wrongB s pos
        · have e : (sizeI s pos).2 = ((Utf8.decode s pos).1 : Int) := by unfold sizeI; rw [if_neg (by rw [hwr]; decide)]
          rw [e, okI_nat]
          cases hnm : namedB (Utf8.decode s pos).1
          · rw [if_pos rfl, Bool.false_and, Bool.and_false]
          · rw [if_neg (by decide), if_neg (by decide), ih (by omega), Bool.true_and, Nat.add_assoc, Nat.add_comm 1 (runesFrom s f (pos + (Utf8.decode s pos).2)).length]
        · have e : (sizeI s pos).2 = -1 := by unfold sizeI; rw [if_pos hwr]
          rw [e, okI_neg, Bool.false_and, Bool.and_false, if_pos rfl]
          split <;> rfl
    · rw [nameFrom_end hp, runesFrom_end hp]
      rw [Bool.eq_iff_iff]
      simp only [List.length_nil, Nat.add_zero, List.all_nil, Bool.and_true, Bool.and_eq_true, decide_eq_true_eq]
      omega
theorem nameB_eq (s : ByteArray) : nameB s = (decide (1 ≤ (runesI s).length) && decide ((runesI s).length ≤ 32) && (runesI s).all okI) := by
  unfold nameB runesI
  rw [nameFrom_eq s s.size 0 0 (by omega) (by omega), Nat.zero_add]
theorem runesFrom_len (s : ByteArray) : ∀ (f pos : Nat), (runesFrom s f pos).length ≤ f
  | 0, pos => Nat.le_refl _
  | f + 1, pos => by
    unfold runesFrom
    split
    · have := runesFrom_len s f (pos + (Utf8.decode s pos).2)
      simp only [List.length_cons]; omega
    · simp
theorem size_at (s : ByteArray) (i : Nat) (hi : i < s.size) (hs : s.size ≤ 1000000000000000) (w : World) :
    Calls Tryz.prog 81 #[.string (s.extract i s.size)] w fun e w' => e = .returned (.tuple #[.int .i64 ((Utf8.decode s i).2 : Nat), .int .i64 (sizeI s i).2]) ∧ w = w' := by
  have := size_any w (s.extract i s.size) (by simp; omega) (by simp; omega)
  rw [sizeI_tail, sizeI_w] at this
  exact this

theorem intcT_one (x : Int) (u : Value) (h : u ∈ intc x) : u.oneCell' = true := by
  simp only [intc, List.mem_cons, List.not_mem_nil, or_false] at h
  subst h; rfl
theorem infoIntT : (Tryz.prog.info? 3).map (fun i => (i.zero, i.size, i.bytes)) = some (some (.int .i64 0), 1, 8) := by kernel_rfl
theorem elIntT : El Tryz.prog 43 3 1 8 intc := ⟨Tryz.underlying43, ⟨_, infoIntT, rfl⟩, by decide, by decide, fun _ => rfl, intcT_one⟩

set_option maxRecDepth 8000 in
set_option maxHeartbeats 2000000 in
theorem runes_any (w : World) (s : ByteArray) (hs : s.size ≤ 1000000000) :
    Calls Tryz.prog 71 #[.string s] w fun e w' => ∃ v, e = .returned v ∧ Own w' w.heap.size 3 1 intc v (runesI s) ∧ Below w.heap.size w w' := by
  go_enter Tryz.func71, Tryz.ntmps71
  go_wp2_with fail
  go_loopw [3, 4] (fun v i wr => ∃ (pos f : Nat) (R : List Int), i = .int .i64 pos ∧ s.size ≤ pos + f ∧ R.length ≤ pos ∧ pos ≤ s.size + 4 ∧ Own wr w.heap.size 3 1 intc v R ∧ Below w.heap.size w wr ∧ R ++ runesFrom s f pos = runesI s) (fun _ i _ => s.size - (RowKit.intOf i).toNat)
  case atStart => exact ⟨0, s.size, [], rfl, by omega, Nat.le_refl _, by omega, Own.nil_ _ _ _ _ _, Below.refl _ _, rfl⟩
  case round =>
    obtain ⟨pos, f, R, rfl, hf, hR, hpe, hO, hB, hA⟩ := hrel
    have HO := Lib.hid hO
    have HB := Lib.hid hB
    have HA := Lib.hid hA
    obtain ⟨A, c, rfl, _, _⟩ := hO.shape_ (n := R.length) rfl
    clear hO hB hA
    by_cases hp : pos < s.size
    · obtain ⟨f, rfl⟩ : ∃ f', f = f' + 1 := ⟨f - 1, by omega⟩
      have hw := Lib.decode_width_pos s pos hp
      have hw4 := width_le s pos
      have hsz := fun wz => size_at s pos hp (by omega) wz
      obtain ⟨m, hm⟩ : ∃ m, (Utf8.decode s pos).2 = m := ⟨_, rfl⟩
      obtain ⟨r, hr⟩ : ∃ r, (sizeI s pos).2 = r := ⟨_, rfl⟩
      have ha := HA.out
      unfold runesFrom at ha
      rw [if_pos hp, hm, hr] at ha
      rw [hm] at hw hw4
      rw [hm, hr] at hsz
      have HSZ := Lib.hid hsz
      have HA2 := Lib.hid ha
      have hB2 : Below wr.heap.size wr (wr.alloc (.cells #[.int .i64 r] 3)) := (Below.refl _ wr).alloc (Nat.le_refl _) _
      have HONE := Lib.hid (Sl.single (k := 1) (enc := intc) (x := r) (heap_alloc_new wr (.cells #[.int .i64 r] 3)) rfl)
      have HOW := Lib.hid (HO.out.fresh hB2)
      have HBW := Lib.hid (HB.out.trans (hB2.mono HB.out.size))
      clear hsz hm hr ha hB2
      go_wp2_with fail
      refine (HSZ.out wr).mono ?_
      rintro e wr' ⟨rfl, rfl⟩
      go_wp2_with (at_builtin; refine elIntT.append _ (by rfl) _ _ rfl w.heap.size _ _ rfl HOW.out _ _ _ rfl HONE.out (by simp; omega) HBW.out.size ?_; intro v' w' hO' hgr hAt)
      go_roundw
      case rel => exact ⟨pos + m, f, R ++ [r], by go_num, by omega, by simp; omega, by omega, hO', Below.keep HBW.out (Keeps.of_grown hgr) HBW.out.size (fun z hz => (HOW.out.lt z hz).1), by rw [List.append_assoc]; exact HA2.out⟩
      case measure => simp [RowKit.intOf]; omega
    · go_wp2_with fail
      go_ret
      have h1 := HA.out
      rw [runesFrom_end hp, List.append_nil] at h1
      exact ⟨_, rfl, by rw [← h1]; exact HO.out, HB.out⟩

theorem all_take_succI {p : Int → Bool} {l : List Int} {k : Nat} (hk : k < l.length) (h : (l.take k).all p = true) (hp : p l[k] = true) : (l.take (k + 1)).all p = true := by
  rw [List.take_succ_eq_append_getElem hk, List.all_append, h]
  simp [hp]
theorem all_false_ofI {p : Int → Bool} {l : List Int} {k : Nat} (hk : k < l.length) (hp : p l[k] = false) : l.all p = false := by
  rw [List.all_eq_false]
  exact ⟨l[k], List.getElem_mem hk, by rw [hp]; decide⟩

set_option maxRecDepth 8000 in
set_option maxHeartbeats 4000000 in
theorem rname_any (w : World) (s : ByteArray) (hs : s.size ≤ 1000000000) :
    Calls Tryz.prog 56 #[.string s] w fun e w' => e = .returned (.bool (nameB s)) ∧ Below w.heap.size w w' := by
  have HNB := Lib.hid (nameB_eq s)
  go_enter Tryz.func56, Tryz.ntmps56
  go_wp2_with fail
  refine (runes_any w s hs).mono ?_
  rintro e w1 ⟨v, rfl, hO, hB⟩
  have hlen := runesFrom_len s s.size 0
  obtain ⟨R, hR⟩ : ∃ R, runesI s = R := ⟨_, rfl⟩
  have hR' : runesFrom s s.size 0 = R := hR
  rw [hR] at hO HNB
  rw [hR'] at hlen
  obtain ⟨A, c, rfl, hc1, hc2⟩ := hO.shape_ (n := R.length) rfl
  unfold maxLen at hc2
  have HS := Lib.hid (hO.sl elIntT.len)
  have HB1 := Lib.hid hB
  clear hO hB hR hR'
  by_cases h1 : R.length < 1
  · have d1 : decide ((R.length : Int) < 1) = true := decide_eq_true (by omega)
    go_wp2_with fail
    go_ret
    exact ⟨by rw [HNB.out, decide_eq_false (p := 1 ≤ R.length) (by omega)]; rfl, HB1.out⟩
  have d1 : decide ((R.length : Int) < 1) = false := decide_eq_false (by omega)
  by_cases h2 : 32 < R.length
  · have d2 : decide ((R.length : Int) > 32) = true := decide_eq_true (by omega)
    go_wp2_with fail
    go_ret
    exact ⟨by rw [HNB.out, decide_eq_false (p := R.length ≤ 32) (by omega), Bool.and_false]; rfl, HB1.out⟩
  have d2 : decide ((R.length : Int) > 32) = false := decide_eq_false (by omega)
  have HNB : Hid (nameB s = (true && R.all okI)) := Lib.hid (by rw [HNB.out, decide_eq_true (p := 1 ≤ R.length) (by omega), decide_eq_true (p := R.length ≤ 32) (by omega)]; rfl)
  go_wp2_with fail
  go_loop [4] (fun i => ∃ k : Nat, k ≤ R.length ∧ i = .int .i64 k ∧ (R.take k).all okI = true) (fun i => R.length - (RowKit.intOf i).toNat)
  case atStart => exact ⟨0, Nat.zero_le _, rfl, rfl⟩
  case round =>
    obtain ⟨k, hk, rfl, htk⟩ := hrel
    have HTK := Lib.hid htk
    clear htk
    by_cases hlt : k < R.length
    · obtain ⟨b, o, rfl, _, _, hxx⟩ := HS.out.cell_ hlt
      have x0 := hxx 0 _ rfl
      simp only [Nat.add_zero, Nat.mul_one] at x0
      clear hxx
      obtain ⟨r, hr⟩ : ∃ r, R[k] = r := ⟨_, rfl⟩
      rw [hr] at x0
      have HRK := Lib.hid hr
      clear hr
      have hcs : r < 45 ∨ r = 45 ∨ r = 46 ∨ r = 47 ∨ (48 ≤ r ∧ r ≤ 57) ∨ (58 ≤ r ∧ r ≤ 64) ∨ (65 ≤ r ∧ r ≤ 90) ∨ (91 ≤ r ∧ r ≤ 94) ∨ r = 95 ∨ r = 96 ∨ (97 ≤ r ∧ r ≤ 122) ∨ (123 ≤ r ∧ r ≤ 159) ∨ 160 ≤ r := by omega
      rcases hcs with h | h | h | h | h | h | h | h | h | h | h | h | h
      ·
        have d1 : decide ((97 : Int) ≤ r) = false := by simp; omega
        have d2 : decide (r ≤ (122 : Int)) = true := by simp; omega
        have d3 : decide ((65 : Int) ≤ r) = false := by simp; omega
        have d4 : decide (r ≤ (90 : Int)) = true := by simp; omega
        have d5 : decide ((48 : Int) ≤ r) = false := by simp; omega
        have d6 : decide (r ≤ (57 : Int)) = true := by simp; omega
        have d7 : (r != 45) = true := by simp; omega
        have d8 : (r != 95) = true := by simp; omega
        have d9 : (r != 46) = true := by simp; omega
        have d0 : decide (r < (160 : Int)) = true := by simp; omega
        have HZ : Hid (okI r = false) := Lib.hid (by unfold okI; simp; omega)
        clear h
        go_wp2_with fail
        go_ret
        exact ⟨by rw [HNB.out, all_false_ofI hlt (by rw [HRK.out]; exact HZ.out), Bool.and_false]; rfl, HB1.out⟩
      ·
        have d1 : decide ((97 : Int) ≤ r) = false := by simp; omega
        have d2 : decide (r ≤ (122 : Int)) = true := by simp; omega
        have d3 : decide ((65 : Int) ≤ r) = false := by simp; omega
        have d4 : decide (r ≤ (90 : Int)) = true := by simp; omega
        have d5 : decide ((48 : Int) ≤ r) = false := by simp; omega
        have d6 : decide (r ≤ (57 : Int)) = true := by simp; omega
        have d7 : (r != 45) = false := by simp; omega
        have d8 : (r != 95) = true := by simp; omega
        have d9 : (r != 46) = true := by simp; omega
        have d0 : decide (r < (160 : Int)) = true := by simp; omega
        have HZ : Hid (okI r = true) := Lib.hid (by unfold okI; simp; omega)
        clear h
        go_wp2_with fail
        go_round
        case rel => exact ⟨k + 1, hlt, by go_num, all_take_succI hlt HTK.out (by rw [HRK.out]; exact HZ.out)⟩
        case measure => simp [RowKit.intOf]; omega
      ·
        have d1 : decide ((97 : Int) ≤ r) = false := by simp; omega
        have d2 : decide (r ≤ (122 : Int)) = true := by simp; omega
        have d3 : decide ((65 : Int) ≤ r) = false := by simp; omega
        have d4 : decide (r ≤ (90 : Int)) = true := by simp; omega
        have d5 : decide ((48 : Int) ≤ r) = false := by simp; omega
        have d6 : decide (r ≤ (57 : Int)) = true := by simp; omega
        have d7 : (r != 45) = true := by simp; omega
        have d8 : (r != 95) = true := by simp; omega
        have d9 : (r != 46) = false := by simp; omega
        have d0 : decide (r < (160 : Int)) = true := by simp; omega
        have HZ : Hid (okI r = true) := Lib.hid (by unfold okI; simp; omega)
        clear h
        go_wp2_with fail
        go_round
        case rel => exact ⟨k + 1, hlt, by go_num, all_take_succI hlt HTK.out (by rw [HRK.out]; exact HZ.out)⟩
        case measure => simp [RowKit.intOf]; omega
      ·
        have d1 : decide ((97 : Int) ≤ r) = false := by simp; omega
        have d2 : decide (r ≤ (122 : Int)) = true := by simp; omega
        have d3 : decide ((65 : Int) ≤ r) = false := by simp; omega
        have d4 : decide (r ≤ (90 : Int)) = true := by simp; omega
        have d5 : decide ((48 : Int) ≤ r) = false := by simp; omega
        have d6 : decide (r ≤ (57 : Int)) = true := by simp; omega
        have d7 : (r != 45) = true := by simp; omega
        have d8 : (r != 95) = true := by simp; omega
        have d9 : (r != 46) = true := by simp; omega
        have d0 : decide (r < (160 : Int)) = true := by simp; omega
        have HZ : Hid (okI r = false) := Lib.hid (by unfold okI; simp; omega)
        clear h
        go_wp2_with fail
        go_ret
        exact ⟨by rw [HNB.out, all_false_ofI hlt (by rw [HRK.out]; exact HZ.out), Bool.and_false]; rfl, HB1.out⟩
      ·
        have d1 : decide ((97 : Int) ≤ r) = false := by simp; omega
        have d2 : decide (r ≤ (122 : Int)) = true := by simp; omega
        have d3 : decide ((65 : Int) ≤ r) = false := by simp; omega
        have d4 : decide (r ≤ (90 : Int)) = true := by simp; omega
        have d5 : decide ((48 : Int) ≤ r) = true := by simp; omega
        have d6 : decide (r ≤ (57 : Int)) = true := by simp; omega
        have d7 : (r != 45) = true := by simp; omega
        have d8 : (r != 95) = true := by simp; omega
        have d9 : (r != 46) = true := by simp; omega
        have d0 : decide (r < (160 : Int)) = true := by simp; omega
        have HZ : Hid (okI r = true) := Lib.hid (by unfold okI; simp; omega)
        clear h
        go_wp2_with fail
        go_round
        case rel => exact ⟨k + 1, hlt, by go_num, all_take_succI hlt HTK.out (by rw [HRK.out]; exact HZ.out)⟩
        case measure => simp [RowKit.intOf]; omega
      ·
        have d1 : decide ((97 : Int) ≤ r) = false := by simp; omega
        have d2 : decide (r ≤ (122 : Int)) = true := by simp; omega
        have d3 : decide ((65 : Int) ≤ r) = false := by simp; omega
        have d4 : decide (r ≤ (90 : Int)) = true := by simp; omega
        have d5 : decide ((48 : Int) ≤ r) = true := by simp; omega
        have d6 : decide (r ≤ (57 : Int)) = false := by simp; omega
        have d7 : (r != 45) = true := by simp; omega
        have d8 : (r != 95) = true := by simp; omega
        have d9 : (r != 46) = true := by simp; omega
        have d0 : decide (r < (160 : Int)) = true := by simp; omega
        have HZ : Hid (okI r = false) := Lib.hid (by unfold okI; simp; omega)
        clear h
        go_wp2_with fail
        go_ret
        exact ⟨by rw [HNB.out, all_false_ofI hlt (by rw [HRK.out]; exact HZ.out), Bool.and_false]; rfl, HB1.out⟩
      ·
        have d1 : decide ((97 : Int) ≤ r) = false := by simp; omega
        have d2 : decide (r ≤ (122 : Int)) = true := by simp; omega
        have d3 : decide ((65 : Int) ≤ r) = true := by simp; omega
        have d4 : decide (r ≤ (90 : Int)) = true := by simp; omega
        have d5 : decide ((48 : Int) ≤ r) = true := by simp; omega
        have d6 : decide (r ≤ (57 : Int)) = false := by simp; omega
        have d7 : (r != 45) = true := by simp; omega
        have d8 : (r != 95) = true := by simp; omega
        have d9 : (r != 46) = true := by simp; omega
        have d0 : decide (r < (160 : Int)) = true := by simp; omega
        have HZ : Hid (okI r = true) := Lib.hid (by unfold okI; simp; omega)
        clear h
        go_wp2_with fail
        go_round
        case rel => exact ⟨k + 1, hlt, by go_num, all_take_succI hlt HTK.out (by rw [HRK.out]; exact HZ.out)⟩
        case measure => simp [RowKit.intOf]; omega
      ·
        have d1 : decide ((97 : Int) ≤ r) = false := by simp; omega
        have d2 : decide (r ≤ (122 : Int)) = true := by simp; omega
        have d3 : decide ((65 : Int) ≤ r) = true := by simp; omega
        have d4 : decide (r ≤ (90 : Int)) = false := by simp; omega
        have d5 : decide ((48 : Int) ≤ r) = true := by simp; omega
        have d6 : decide (r ≤ (57 : Int)) = false := by simp; omega
        have d7 : (r != 45) = true := by simp; omega
        have d8 : (r != 95) = true := by simp; omega
        have d9 : (r != 46) = true := by simp; omega
        have d0 : decide (r < (160 : Int)) = true := by simp; omega
        have HZ : Hid (okI r = false) := Lib.hid (by unfold okI; simp; omega)
        clear h
        go_wp2_with fail
        go_ret
        exact ⟨by rw [HNB.out, all_false_ofI hlt (by rw [HRK.out]; exact HZ.out), Bool.and_false]; rfl, HB1.out⟩
      ·
        have d1 : decide ((97 : Int) ≤ r) = false := by simp; omega
        have d2 : decide (r ≤ (122 : Int)) = true := by simp; omega
        have d3 : decide ((65 : Int) ≤ r) = true := by simp; omega
        have d4 : decide (r ≤ (90 : Int)) = false := by simp; omega
        have d5 : decide ((48 : Int) ≤ r) = true := by simp; omega
        have d6 : decide (r ≤ (57 : Int)) = false := by simp; omega
        have d7 : (r != 45) = true := by simp; omega
        have d8 : (r != 95) = false := by simp; omega
        have d9 : (r != 46) = true := by simp; omega
        have d0 : decide (r < (160 : Int)) = true := by simp; omega
        have HZ : Hid (okI r = true) := Lib.hid (by unfold okI; simp; omega)
        clear h
        go_wp2_with fail
        go_round
        case rel => exact ⟨k + 1, hlt, by go_num, all_take_succI hlt HTK.out (by rw [HRK.out]; exact HZ.out)⟩
        case measure => simp [RowKit.intOf]; omega
      ·
        have d1 : decide ((97 : Int) ≤ r) = false := by simp; omega
        have d2 : decide (r ≤ (122 : Int)) = true := by simp; omega
        have d3 : decide ((65 : Int) ≤ r) = true := by simp; omega
        have d4 : decide (r ≤ (90 : Int)) = false := by simp; omega
        have d5 : decide ((48 : Int) ≤ r) = true := by simp; omega
        have d6 : decide (r ≤ (57 : Int)) = false := by simp; omega
        have d7 : (r != 45) = true := by simp; omega
        have d8 : (r != 95) = true := by simp; omega
        have d9 : (r != 46) = true := by simp; omega
        have d0 : decide (r < (160 : Int)) = true := by simp; omega
        have HZ : Hid (okI r = false) := Lib.hid (by unfold okI; simp; omega)
        clear h
        go_wp2_with fail
        go_ret
        exact ⟨by rw [HNB.out, all_false_ofI hlt (by rw [HRK.out]; exact HZ.out), Bool.and_false]; rfl, HB1.out⟩
      ·
        have d1 : decide ((97 : Int) ≤ r) = true := by simp; omega
        have d2 : decide (r ≤ (122 : Int)) = true := by simp; omega
        have d3 : decide ((65 : Int) ≤ r) = true := by simp; omega
        have d4 : decide (r ≤ (90 : Int)) = false := by simp; omega
        have d5 : decide ((48 : Int) ≤ r) = true := by simp; omega
        have d6 : decide (r ≤ (57 : Int)) = false := by simp; omega
        have d7 : (r != 45) = true := by simp; omega
        have d8 : (r != 95) = true := by simp; omega
        have d9 : (r != 46) = true := by simp; omega
        have d0 : decide (r < (160 : Int)) = true := by simp; omega
        have HZ : Hid (okI r = true) := Lib.hid (by unfold okI; simp; omega)
        clear h
        go_wp2_with fail
        go_round
        case rel => exact ⟨k + 1, hlt, by go_num, all_take_succI hlt HTK.out (by rw [HRK.out]; exact HZ.out)⟩
        case measure => simp [RowKit.intOf]; omega
      ·
        have d1 : decide ((97 : Int) ≤ r) = true := by simp; omega
        have d2 : decide (r ≤ (122 : Int)) = false := by simp; omega
        have d3 : decide ((65 : Int) ≤ r) = true := by simp; omega
        have d4 : decide (r ≤ (90 : Int)) = false := by simp; omega
        have d5 : decide ((48 : Int) ≤ r) = true := by simp; omega
        have d6 : decide (r ≤ (57 : Int)) = false := by simp; omega
        have d7 : (r != 45) = true := by simp; omega
        have d8 : (r != 95) = true := by simp; omega
        have d9 : (r != 46) = true := by simp; omega
        have d0 : decide (r < (160 : Int)) = true := by simp; omega
        have HZ : Hid (okI r = false) := Lib.hid (by unfold okI; simp; omega)
        clear h
        go_wp2_with fail
        go_ret
        exact ⟨by rw [HNB.out, all_false_ofI hlt (by rw [HRK.out]; exact HZ.out), Bool.and_false]; rfl, HB1.out⟩
      ·
        have d1 : decide ((97 : Int) ≤ r) = true := by simp; omega
        have d2 : decide (r ≤ (122 : Int)) = false := by simp; omega
        have d3 : decide ((65 : Int) ≤ r) = true := by simp; omega
        have d4 : decide (r ≤ (90 : Int)) = false := by simp; omega
        have d5 : decide ((48 : Int) ≤ r) = true := by simp; omega
        have d6 : decide (r ≤ (57 : Int)) = false := by simp; omega
        have d7 : (r != 45) = true := by simp; omega
        have d8 : (r != 95) = true := by simp; omega
        have d9 : (r != 46) = true := by simp; omega
        have d0 : decide (r < (160 : Int)) = false := by simp; omega
        have HZ : Hid (okI r = true) := Lib.hid (by unfold okI; simp; omega)
        clear h
        go_wp2_with fail
        go_round
        case rel => exact ⟨k + 1, hlt, by go_num, all_take_succI hlt HTK.out (by rw [HRK.out]; exact HZ.out)⟩
        case measure => simp [RowKit.intOf]; omega
    · have hkd : k = R.length := by omega
      subst hkd
      go_wp2_with fail
      go_ret
      have := HTK.out
      rw [List.take_length] at this
      exact ⟨by rw [HNB.out, this]; rfl, HB1.out⟩
end Go.Proofs.YthdcnknjjbdefaaGreatDoor
