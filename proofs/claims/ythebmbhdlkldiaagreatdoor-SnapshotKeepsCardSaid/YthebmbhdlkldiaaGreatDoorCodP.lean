/- Events, batches, entries as bytes, in plain words. No condition. -/
import Derived.Test.YthebmbhdlkldiaaGreatDoorNumB
import Derived.Test.YthebmbhdlkldiaaGreatDoorRecA
/- Numbers of either sign and texts as bytes, in plain words. No condition. -/
namespace Go.Proofs.YthebmbhdlkldiaaGreatDoor
open Go.RowKit Go.Bl

def numL (n : Nat) : List UInt8 := bytesOf (putL n)
theorem numL_len {n : Nat} (h : n ≤ 1099511627776) : (numL n).length ≤ 6 := by
  unfold numL bytesOf
  rw [List.length_map]
  exact putL_len 5 n (by omega)
theorem numL_pos (n : Nat) : 0 < (numL n).length := by
  unfold numL bytesOf
  rw [List.length_map]
  by_cases h : n < 128
  · rw [putL_small h]; simp
  · rw [putL_big h]; simp
theorem putB_numL (n : Nat) : putB n = Bl (numL n) := rfl
theorem tkN_num {n : Nat} (h : n ≤ 1099511627776) (r : List UInt8) : tkN (numL n ++ r) = ((n : Int), r, 0) := by
  have hl := putL_len 5 n (by omega)
  have := tkL_put (n + 1) 0 0 n r (by omega) (by omega) (.inl rfl) (by omega)
  unfold tkN numL
  rw [this]
  simp [bytesOf]
def txtL (l : List UInt8) : List UInt8 := numL l.length ++ l
theorem txtL_len {l : List UInt8} (h : l.length ≤ 1099511627776) : (txtL l).length ≤ l.length + 6 := by
  have := numL_len h
  unfold txtL
  rw [List.length_append]
  omega
/-- Numbers of either sign. -/
def zig (n : Int) : Nat := if 0 ≤ n then (2 * n).toNat else (-2 * n - 1).toNat
def unz (n : Int) : Int := if n % 2 = 0 then n / 2 else -(n + 1) / 2
theorem unz_zig (n : Int) : unz (zig n) = n := by
  unfold unz zig
  split <;> split <;> omega
theorem zig_le {n : Int} (h1 : -1 ≤ n) (h2 : n ≤ 274877906944) : zig n ≤ 549755813888 := by
  unfold zig; split <;> omega
def tkI (s : List UInt8) : Int × List UInt8 × Int := (unz (tkN s).1, (tkN s).2)
theorem tkI_zig {n : Int} (h1 : -1 ≤ n) (h2 : n ≤ 274877906944) (r : List UInt8) : tkI (numL (zig n) ++ r) = (n, r, 0) := by
  unfold tkI
  rw [tkN_num (by have := zig_le h1 h2; omega), unz_zig]
/-- A text taken off the front. -/
def tkT (most : Int) (s : List UInt8) : List UInt8 × List UInt8 × Int :=
  if (tkN s).2.2 ≠ 0 then ([], [], (tkN s).2.2) else if most < (tkN s).1 then ([], [], 4) else if ((tkN s).2.1.length : Int) < (tkN s).1 then ([], [], 3) else ((tkN s).2.1.take (tkN s).1.toNat, (tkN s).2.1.drop (tkN s).1.toNat, 0)
theorem tkT_txt {l : List UInt8} {most : Int} (h : l.length ≤ 1099511627776) (hm : (l.length : Int) ≤ most) (r : List UInt8) : tkT most (txtL l ++ r) = (l, r, 0) := by
  unfold tkT txtL
  rw [List.append_assoc, tkN_num h, if_neg (by simp), if_neg (by simp only; omega), if_neg (by simp only [List.length_append]; omega)]
  simp
end Go.Proofs.YthebmbhdlkldiaaGreatDoor

namespace Go.Proofs.YthebmbhdlkldiaaGreatDoor
open Go.RowKit Go.Bl

/-- A name has 128 bytes at most. -/
theorem decode_le4 (s : ByteArray) (pos : Nat) : (Utf8.decode s pos).2 ≤ 4 := by
  rw [Lib.decode_at]
  unfold Lib.decodeN
  repeat' split
  all_goals simp
theorem nameFrom_size (s : ByteArray) : ∀ (f pos n : Nat), s.size ≤ pos + f → n ≤ 32 → nameFrom s f pos n = true → s.size ≤ pos + 4 * (32 - n)
  | 0, pos, n, hf, _, _ => by omega
  | f + 1, pos, n, hf, hn, h => by
    unfold nameFrom at h
    by_cases hp : pos < s.size
    · rw [if_pos hp] at h
      by_cases h32 : 32 < n + 1
      · rw [if_pos h32] at h; cases h
      · rw [if_neg h32] at h
        split at h
        · cases h
        · split at h
          · cases h
          · have h1 := Lib.decode_width_pos s pos hp
            have h2 := decode_le4 s pos
            have := nameFrom_size s f _ (n + 1) (by omega) (by omega) h
            omega
    · omega
theorem name_size {s : ByteArray} (h : nameB s = true) : s.size ≤ 128 := by
  have := nameFrom_size s s.size 0 0 (by omega) (by omega) h
  omega

def evbL (e : Ev) : List UInt8 := txtL (Lb e.kind) ++ txtL (Lb e.data)
def batL (a : Ent) : List UInt8 := txtL (Lb a.stream) ++ (numL (zig a.expect) ++ (numL a.session.toNat ++ (numL a.seq.toNat ++ (numL a.evs.length ++ a.evs.flatMap evbL))))
def entL (a : Ent) : List UInt8 := numL a.pos.toNat ++ (numL a.epoch.toNat ++ batL a)
/-- What is put of an entry that is right, or not. -/
def entP (a : Ent) : List UInt8 := if rightB a then entL a else []
def rowP (l : List Ent) : List UInt8 := if l.all rightB then numL l.length ++ l.flatMap entL else []
theorem rightE_sizes {e : Ev} (h : rightE e = true) : e.kind.size ≤ 128 ∧ e.data.size ≤ 200 := by
  simp only [rightE, Bool.and_eq_true, decide_eq_true_eq] at h
  exact ⟨name_size h.2, h.1⟩
theorem evbL_len {e : Ev} (h : rightE e = true) : (evbL e).length ≤ 340 := by
  obtain ⟨h1, h2⟩ := rightE_sizes h
  have h3 := txtL_len (l := Lb e.kind) (by rw [Lb_len]; omega)
  have h4 := txtL_len (l := Lb e.data) (by rw [Lb_len]; omega)
  rw [Lb_len] at h3 h4
  unfold evbL
  rw [List.length_append]
  omega
theorem evbL_pos (e : Ev) : 0 < (evbL e).length := by
  have := numL_pos (Lb e.kind).length
  unfold evbL txtL
  simp only [List.length_append]
  omega
theorem flat_len {α : Type} (f : α → List UInt8) (b : Nat) : ∀ l : List α, (∀ x ∈ l, (f x).length ≤ b) → (l.flatMap f).length ≤ l.length * b
  | [], _ => by simp
  | x :: l, h => by
    have h1 := h x List.mem_cons_self
    have h2 := flat_len f b l (fun y hy => h y (List.mem_cons_of_mem _ hy))
    simp only [List.flatMap_cons, List.length_append, List.length_cons, Nat.add_mul]
    omega
/-- What a batch that fits is. -/
theorem fits_zero {a : Ent} (h : fitsI a = 0) : nameB a.stream = true ∧ (-1 ≤ a.expect ∧ a.expect ≤ 274877906944) ∧ (1 ≤ a.session ∧ a.session ≤ 274877906944) ∧ (1 ≤ a.seq ∧ a.seq ≤ 274877906944) ∧ 0 < a.evs.length ∧ a.evs.length ≤ 8 ∧ ∀ e ∈ a.evs, rightE e = true := by
  unfold fitsI at h
  split at h
  · omega
  rename_i h1
  split at h
  · omega
  rename_i h2
  split at h
  · omega
  rename_i h3
  split at h
  · omega
  rename_i h4
  split at h
  · omega
  rename_i h5
  split at h
  · omega
  rename_i h6
  split at h
  · omega
  rename_i h7
  simp only [Bool.not_eq_false] at h1 h3 h4
  simp only [numB, Bool.and_eq_true, decide_eq_true_eq] at h3 h4
  refine ⟨h1, by omega, h3, h4, by omega, by omega, fun e he => ?_⟩
  cases hr : rightE e
  · exact absurd (List.any_eq_true.2 ⟨e, he, by rw [hr]; rfl⟩) h7
  · rfl
theorem batL_len {a : Ent} (h : fitsI a = 0) : (batL a).length ≤ 3000 := by
  obtain ⟨h1, ⟨h2, h2'⟩, h3, h4, h5, h6, h7⟩ := fits_zero h
  have e1 := name_size h1
  have e2 := txtL_len (l := Lb a.stream) (by rw [Lb_len]; omega)
  rw [Lb_len] at e2
  have e3 := numL_len (n := zig a.expect) (by have := zig_le h2 h2'; omega)
  have e4 := numL_len (n := a.session.toNat) (by omega)
  have e5 := numL_len (n := a.seq.toNat) (by omega)
  have e6 := numL_len (n := a.evs.length) (by omega)
  have e7 := flat_len evbL 340 a.evs (fun e he => evbL_len (h7 e he))
  have e8 : a.evs.length * 340 ≤ 8 * 340 := Nat.mul_le_mul_right _ h6
  unfold batL
  simp only [List.length_append]
  omega
theorem right_fits {a : Ent} (h : rightB a = true) : (1 ≤ a.pos ∧ a.pos ≤ 274877906944) ∧ (1 ≤ a.epoch ∧ a.epoch ≤ 274877906944) ∧ fitsI a = 0 := by
  simp only [rightB, numB, Bool.and_eq_true, decide_eq_true_eq] at h
  exact h
theorem entL_len {a : Ent} (h : rightB a = true) : (entL a).length ≤ 3100 := by
  obtain ⟨h1, h2, h3⟩ := right_fits h
  have e1 := numL_len (n := a.pos.toNat) (by omega)
  have e2 := numL_len (n := a.epoch.toNat) (by omega)
  have e3 := batL_len h3
  unfold entL
  simp only [List.length_append]
  omega
theorem entL_pos (a : Ent) : 0 < (entL a).length := by
  have := numL_pos a.pos.toNat
  unfold entL
  simp only [List.length_append]
  omega
end Go.Proofs.YthebmbhdlkldiaaGreatDoor
