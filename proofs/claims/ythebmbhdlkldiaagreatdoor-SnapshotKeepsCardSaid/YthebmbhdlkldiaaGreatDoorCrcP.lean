/- Check sums, plain: four bits at once by a table are four bits one by one. No condition. -/
import Derived.Test.YthebmbhdlkldiaaGreatDoorBlA
namespace Go.Proofs.YthebmbhdlkldiaaGreatDoor

/-- One bit of a check sum. -/
def bit1 (r : Nat) : Nat := if r % 2 = 1 then r / 2 ^^^ 3988292384 else r / 2
def bit4 (r : Nat) : Nat := bit1 (bit1 (bit1 (bit1 r)))
def tabN (i : Nat) : Nat := bit4 i
def crcS (r c : Nat) : Nat :=
  let r1 := tabN ((r % 256 ^^^ c) % 16) ^^^ r / 16
  tabN ((r1 % 256 ^^^ c / 16) % 16) ^^^ r1 / 16
theorem xor_mod2 (a b : Nat) : (a ^^^ b) % 2 = (a % 2 + b % 2) % 2 := by
  have h : (a ^^^ b) % 2 ^ 1 = a % 2 ^ 1 ^^^ b % 2 ^ 1 := Nat.xor_mod_two_pow
  simp only [Nat.pow_one] at h
  rw [h]
  rcases Nat.mod_two_eq_zero_or_one a with ha | ha <;> rcases Nat.mod_two_eq_zero_or_one b with hb | hb <;> rw [ha, hb] <;> rfl
theorem xor_div2 (a b : Nat) : (a ^^^ b) / 2 = a / 2 ^^^ b / 2 := Nat.xor_div_two
theorem bit1_xor (a b : Nat) : bit1 (a ^^^ b) = bit1 a ^^^ bit1 b := by
  unfold bit1
  rw [xor_mod2, xor_div2]
  rcases Nat.mod_two_eq_zero_or_one a with ha | ha <;> rcases Nat.mod_two_eq_zero_or_one b with hb | hb <;> rw [ha, hb] <;> simp
  · rw [Nat.xor_assoc]
  · rw [Nat.xor_assoc, Nat.xor_assoc, Nat.xor_comm (b / 2)]
  · rw [show a / 2 ^^^ 3988292384 ^^^ (b / 2 ^^^ 3988292384) = a / 2 ^^^ (3988292384 ^^^ (3988292384 ^^^ b / 2)) by rw [Nat.xor_assoc, Nat.xor_comm (b / 2)], ← Nat.xor_assoc 3988292384, Nat.xor_self, Nat.zero_xor]
theorem bit4_xor (a b : Nat) : bit4 (a ^^^ b) = bit4 a ^^^ bit4 b := by unfold bit4; simp only [bit1_xor]
theorem bit1_two (y : Nat) : bit1 (2 * y) = y := by unfold bit1; rw [if_neg (by omega)]; omega
theorem bit4_sixteen (y : Nat) : bit4 (16 * y) = y := by
  unfold bit4
  rw [show 16 * y = 2 * (2 * (2 * (2 * y))) by omega, bit1_two, bit1_two, bit1_two, bit1_two]
theorem split16 (x : Nat) : x = x % 16 ^^^ 16 * (x / 16) := by
  have h : x % 16 ^^^ 16 * (x / 16) = x % 16 + 16 * (x / 16) := by
    have := Nat.two_pow_add_eq_or_of_lt (i := 4) (b := x % 16) (by omega) (x / 16)
    rw [show (2:Nat) ^ 4 = 16 from rfl] at this
    rw [Nat.add_comm, this]
    apply Nat.eq_of_testBit_eq
    intro i
    rw [Nat.testBit_xor, Nat.testBit_or]
    have h1 : (x % 16).testBit i = (decide (i < 4) && x.testBit i) := Nat.testBit_mod_two_pow x 4 i
    have h2 : (16 * (x / 16)).testBit i = (decide (4 ≤ i) && (x / 16).testBit (i - 4)) := by
      rw [show 16 = 2 ^ 4 from rfl, Nat.testBit_two_pow_mul]
    rw [h1, h2]
    by_cases hi : i < 4
    · simp [hi, show ¬ 4 ≤ i by omega]
    · simp [hi, show 4 ≤ i by omega]
  rw [h]; omega
theorem bit4_eq (x : Nat) : bit4 x = tabN (x % 16) ^^^ x / 16 := by
  conv => lhs; rw [split16 x, bit4_xor, bit4_sixteen]
  rfl
theorem xor_mod_pow (a b k : Nat) : (a ^^^ b) % 2 ^ k = a % 2 ^ k ^^^ b % 2 ^ k := Nat.xor_mod_two_pow
theorem xor_div_pow (a b k : Nat) : (a ^^^ b) / 2 ^ k = a / 2 ^ k ^^^ b / 2 ^ k := Nat.xor_div_two_pow
theorem crcS_doc (r c : Nat) (hc : c < 256) : crcS r c = bit4 (bit4 (r ^^^ c)) := by
  have e1 : bit4 (r ^^^ c) = tabN ((r % 256 ^^^ c) % 16) ^^^ r / 16 ^^^ c / 16 := by
    rw [bit4_eq]
    have m := xor_mod_pow r c 4
    have d := xor_div_pow r c 4
    have m2 := xor_mod_pow (r % 256) c 4
    simp only [Nat.reducePow] at m d m2
    rw [m, d, m2, Nat.mod_mod_of_dvd _ (by decide), Nat.xor_assoc]
  rw [e1, bit4_eq]
  show tabN _ ^^^ _ = _
  generalize tabN ((r % 256 ^^^ c) % 16) ^^^ r / 16 = r1
  have m := xor_mod_pow r1 (c / 16) 4
  have d := xor_div_pow r1 (c / 16) 4
  have m2 := xor_mod_pow (r1 % 256) (c / 16) 4
  simp only [Nat.reducePow] at m d m2
  rw [m, d, m2, Nat.mod_mod_of_dvd _ (by decide), show c / 16 / 16 = 0 by omega, Nat.xor_zero]
theorem bit1_lt {r : Nat} (h : r < 4294967296) : bit1 r < 4294967296 := by
  unfold bit1
  split
  · exact Nat.xor_lt_two_pow (n := 32) (by omega) (by omega)
  · omega
theorem bit4_lt {r : Nat} (h : r < 4294967296) : bit4 r < 4294967296 := bit1_lt (bit1_lt (bit1_lt (bit1_lt h)))
theorem crcS_lt {r c : Nat} (h : r < 4294967296) (hc : c < 256) : crcS r c < 4294967296 := by
  rw [crcS_doc r c hc]
  exact bit4_lt (bit4_lt (Nat.xor_lt_two_pow (n := 32) (by omega) (by omega)))
def crcU (r : Nat) (l : List UInt8) : Nat := 4294967295 - l.foldl (fun r c => crcS r c.toNat) (4294967295 - r)
theorem crcU_lt (n : Nat) (l : List UInt8) : crcU n l < 4294967296 := by unfold crcU; omega
end Go.Proofs.YthebmbhdlkldiaaGreatDoor
