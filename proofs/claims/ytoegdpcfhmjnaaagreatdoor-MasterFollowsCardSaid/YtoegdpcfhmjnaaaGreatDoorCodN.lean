/- Numbers of either sign and texts as bytes, in plain words. No condition. -/
import Derived.Test.YtoegdpcfhmjnaaaGreatDoorNumB
namespace Go.Proofs.YtoegdpcfhmjnaaaGreatDoor
open Go.RowKit Go.Bl

def numL (n : Nat) : List UInt8 := bytesOf (putL n)
theorem numL_len {n : Nat} (h : n ≤ 1099511627776) : (numL n).length ≤ 6 := by
  unfold numL bytesOf
  rw [List.length_map]
  exact putL_len 5 n (by omega)
theorem numL_pos (n : Nat) : 0 < (numL n).length := by
  unfold numL bytesOf
  rw [List.length_map]
  by_cases h : n < 128
  · rw [putL_small h]; simp
  · rw [putL_big h]; simp
theorem putB_numL (n : Nat) : putB n = Bl (numL n) := rfl
theorem tkN_num {n : Nat} (h : n ≤ 1099511627776) (r : List UInt8) : tkN (numL n ++ r) = ((n : Int), r, 0) := by
  have hl := putL_len 5 n (by omega)
  have := tkL_put (n + 1) 0 0 n r (by omega) (by omega) (.inl rfl) (by omega)
  unfold tkN numL
  rw [this]
  simp [bytesOf]
def txtL (l : List UInt8) : List UInt8 := numL l.length ++ l
theorem txtL_len {l : List UInt8} (h : l.length ≤ 1099511627776) : (txtL l).length ≤ l.length + 6 := by
  have := numL_len h
  unfold txtL
  rw [List.length_append]
  omega
/-- Numbers of either sign. -/
def zig (n : Int) : Nat := if 0 ≤ n then (2 * n).toNat else (-2 * n - 1).toNat
def unz (n : Int) : Int := if n % 2 = 0 then n / 2 else -(n + 1) / 2
theorem unz_zig (n : Int) : unz (zig n) = n := by
  unfold unz zig
  split <;> split <;> omega
theorem zig_le {n : Int} (h1 : -1 ≤ n) (h2 : n ≤ 274877906944) : zig n ≤ 549755813888 := by
  unfold zig; split <;> omega
def tkI (s : List UInt8) : Int × List UInt8 × Int := (unz (tkN s).1, (tkN s).2)
theorem tkI_zig {n : Int} (h1 : -1 ≤ n) (h2 : n ≤ 274877906944) (r : List UInt8) : tkI (numL (zig n) ++ r) = (n, r, 0) := by
  unfold tkI
  rw [tkN_num (by have := zig_le h1 h2; omega), unz_zig]
/-- A text taken off the front. -/
def tkT (most : Int) (s : List UInt8) : List UInt8 × List UInt8 × Int :=
  if (tkN s).2.2 ≠ 0 then ([], [], (tkN s).2.2) else if most < (tkN s).1 then ([], [], 4) else if ((tkN s).2.1.length : Int) < (tkN s).1 then ([], [], 3) else ((tkN s).2.1.take (tkN s).1.toNat, (tkN s).2.1.drop (tkN s).1.toNat, 0)
theorem tkT_txt {l : List UInt8} {most : Int} (h : l.length ≤ 1099511627776) (hm : (l.length : Int) ≤ most) (r : List UInt8) : tkT most (txtL l ++ r) = (l, r, 0) := by
  unfold tkT txtL
  rw [List.append_assoc, tkN_num h, if_neg (by simp), if_neg (by simp only; omega), if_neg (by simp only [List.length_append]; omega)]
  simp
end Go.Proofs.YtoegdpcfhmjnaaaGreatDoor
