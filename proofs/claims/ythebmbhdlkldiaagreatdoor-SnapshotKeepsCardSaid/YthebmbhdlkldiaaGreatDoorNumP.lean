/- Numbers as bytes, plain: what num.Put and num.Take compute; texts as lists of bytes. No condition. -/
import Derived.Test.YthebmbhdlkldiaaGreatDoorBlA
namespace Go.Proofs.YthebmbhdlkldiaaGreatDoor

/-- Texts as lists of bytes, and back. -/
def Lb (s : ByteArray) : List UInt8 := s.data.toList
def Bl (l : List UInt8) : ByteArray := ⟨l.toArray⟩
theorem Lb_Bl (l : List UInt8) : Lb (Bl l) = l := rfl
theorem Bl_Lb (s : ByteArray) : Bl (Lb s) = s := rfl
theorem Bl_inj {a b : List UInt8} (h : Bl a = Bl b) : a = b := by rw [← Lb_Bl a, h, Lb_Bl]
theorem Lb_len (s : ByteArray) : (Lb s).length = s.size := rfl
theorem Bl_size (l : List UInt8) : (Bl l).size = l.length := rfl
theorem Lb_append (a b : ByteArray) : Lb (a ++ b) = Lb a ++ Lb b := by
  unfold Lb; simp
theorem Bl_append (a b : List UInt8) : Bl (a ++ b) = Bl a ++ Bl b := by
  rw [← Bl_Lb (Bl a ++ Bl b), Lb_append]; rfl
theorem Lb_extract (s : ByteArray) (i j : Nat) : Lb (s.extract i j) = ((Lb s).take j).drop i := by
  unfold Lb
  simp [ByteArray.data_extract]
  rw [List.drop_take]
theorem ext_tail (s : ByteArray) (i : Nat) : s.extract i s.size = Bl ((Lb s).drop i) := by
  rw [← Bl_Lb (s.extract i s.size), Lb_extract, List.take_of_length_le (by rw [Lb_len]; omega)]
theorem ext_head (s : ByteArray) (i : Nat) : s.extract 0 i = Bl ((Lb s).take i) := by
  rw [← Bl_Lb (s.extract 0 i), Lb_extract, List.drop_zero]

/-- Four bytes of a number, and back. -/
def fixL (n : Nat) : List UInt8 := [UInt8.ofNat (n / 16777216), UInt8.ofNat (n / 65536), UInt8.ofNat (n / 256), UInt8.ofNat n]
def unfix (l : List UInt8) : Nat := l.foldl (fun n c => (n * 256 + c.toNat) % 4294967296) 0
theorem fixL_len (n : Nat) : (fixL n).length = 4 := rfl
theorem unfix_fix (n : Nat) (h : n < 4294967296) : unfix (fixL n) = n := by
  unfold unfix fixL
  simp
  omega
theorem unfix_lt (l : List UInt8) : unfix l < 4294967296 := by
  unfold unfix
  have : ∀ (l : List UInt8) (a : Nat), a < 4294967296 → l.foldl (fun n c => (n * 256 + c.toNat) % 4294967296) a < 4294967296 := by
    intro l
    induction l with
    | nil => intro a h; exact h
    | cons c l ih => intro a _; exact ih _ (Nat.mod_lt _ (by decide))
  exact this l 0 (by decide)
/-- Numbers read: from byte i on, so much having come: the number, how many bytes, the error. -/
def tkL : Nat → Nat → List UInt8 → Nat × Nat × Int
  | i, _, [] => (0, i, 3)
  | i, n, c :: l =>
    if i = 6 then (0, i, 2)
    else if 128 ≤ c.toNat then tkL (i + 1) (n + (c.toNat % 128) * 128 ^ i) l
    else if c.toNat = 0 ∧ 0 < i then (0, i, 2)
    else if 1099511627776 < n + (c.toNat % 128) * 128 ^ i then (0, i, 4)
    else (n + (c.toNat % 128) * 128 ^ i, i + 1, 0)
def putL (n : Nat) : List Nat := if n < 128 then [n] else (n % 128 + 128) :: putL (n / 128)
termination_by n
decreasing_by omega
theorem putL_small {n : Nat} (h : n < 128) : putL n = [n] := by rw [putL, if_pos h]
theorem putL_big {n : Nat} (h : ¬ n < 128) : putL n = (n % 128 + 128) :: putL (n / 128) := by rw [putL, if_neg h]
theorem putL_lt : ∀ (f n : Nat), n < f → ∀ x ∈ putL n, x < 256
  | 0, _, h => by omega
  | f + 1, n, h => by
    intro x hx
    by_cases h1 : n < 128
    · rw [putL_small h1] at hx
      simp at hx
      omega
    · rw [putL_big h1] at hx
      rcases List.mem_cons.1 hx with hx | hx
      · omega
      · exact putL_lt f (n / 128) (by omega) x hx
theorem putL_len : ∀ (k n : Nat), n < 128 ^ (k + 1) → (putL n).length ≤ k + 1
  | 0, n, h => by rw [putL_small (by simpa using h)]; simp
  | k + 1, n, h => by
    by_cases h1 : n < 128
    · rw [putL_small h1]; simp
    · rw [putL_big h1]
      have := putL_len k (n / 128) (by rw [Nat.pow_succ] at h; omega)
      simp; omega
def bytesOf (l : List Nat) : List UInt8 := l.map UInt8.ofNat
theorem tkL_put : ∀ (f : Nat) (i a n : Nat) (r : List UInt8), n < f → i + (putL n).length ≤ 6 → (i = 0 ∨ 0 < n) → a + n * 128 ^ i ≤ 1099511627776 → tkL i a (bytesOf (putL n) ++ r) = (a + n * 128 ^ i, i + (putL n).length, 0)
  | 0, _, _, _, _, h, _, _, _ => by omega
  | f + 1, i, a, n, r, h, hl, h0, hb => by
    by_cases h1 : n < 128
    · rw [putL_small h1] at hl ⊢
      have e : (UInt8.ofNat n).toNat = n := by simp; omega
      show tkL i a (UInt8.ofNat n :: r) = _
      unfold tkL
      simp only [List.length_singleton] at hl ⊢
      rw [e, if_neg (by omega), if_neg (by omega), if_neg (by omega), Nat.mod_eq_of_lt h1, if_neg (by omega)]
    · rw [putL_big h1] at hl ⊢
      simp only [List.length_cons] at hl ⊢
      have e : (UInt8.ofNat (n % 128 + 128)).toNat = n % 128 + 128 := by simp; omega
      show tkL i a (UInt8.ofNat (n % 128 + 128) :: (bytesOf (putL (n / 128)) ++ r)) = _
      unfold tkL
      rw [e, if_neg (by omega), if_pos (by omega), show (n % 128 + 128) % 128 = n % 128 by omega]
      have hs : n % 128 * 128 ^ i + n / 128 * 128 ^ (i + 1) = n * 128 ^ i := by
        rw [Nat.pow_succ, show n / 128 * (128 ^ i * 128) = (n / 128 * 128) * 128 ^ i by rw [Nat.mul_comm (128 ^ i), Nat.mul_assoc], ← Nat.add_mul]
        congr 1; omega
      rw [tkL_put f (i + 1) _ (n / 128) r (by omega) (by omega) (by omega) (by omega)]
      simp only [Prod.mk.injEq, and_true]
      constructor <;> omega
theorem tkL_bd : ∀ (l : List UInt8) (i n : Nat), i ≤ 6 → n < 128 ^ i → (tkL i n l).1 ≤ 1099511627776 ∧ (tkL i n l).2.1 ≤ i + l.length ∧ 0 ≤ (tkL i n l).2.2 ∧ (tkL i n l).2.2 ≤ 4
  | [], i, n, _, _ => by unfold tkL; simp
  | c :: l, i, n, hi, hn => by
    unfold tkL
    split
    · simp
    · split
      · have hp : n + c.toNat % 128 * 128 ^ i < 128 ^ (i + 1) := by
          have h1 : c.toNat % 128 * 128 ^ i ≤ 127 * 128 ^ i := Nat.mul_le_mul_right _ (by omega)
          rw [Nat.pow_succ]; omega
        have := tkL_bd l (i + 1) _ (by omega) hp
        simp only [List.length_cons]
        refine ⟨this.1, by omega, this.2.2⟩
      · split
        · simp
        · split
          · simp
          · simp only [List.length_cons]; refine ⟨by omega, by omega, by omega, by omega⟩
end Go.Proofs.YthebmbhdlkldiaaGreatDoor
