/- Events, batches, entries as bytes, in plain words. No condition. -/
import Derived.Test.YtimfoijajafdpaaDoorCodN
import Derived.Test.YtimfoijajafdpaaDoorRecA
namespace Go.Proofs.YtimfoijajafdpaaDoor
open Go.RowKit Go.Bl

/-- A name has 128 bytes at most. -/
theorem decode_le4 (s : ByteArray) (pos : Nat) : (Utf8.decode s pos).2 ≤ 4 := by
  rw [Lib.decode_at]
  unfold Lib.decodeN
  repeat' split
  all_goals simp
theorem nameFrom_size (s : ByteArray) : ∀ (f pos n : Nat), s.size ≤ pos + f → n ≤ 32 → nameFrom s f pos n = true → s.size ≤ pos + 4 * (32 - n)
  | 0, pos, n, hf, _, _ => by omega
  | f + 1, pos, n, hf, hn, h => by
    unfold nameFrom at h
    by_cases hp : pos < s.size
    · rw [if_pos hp] at h
      by_cases h32 : 32 < n + 1
      · rw [if_pos h32] at h; cases h
      · rw [if_neg h32] at h
        split at h
        · cases h
        · split at h
          · cases h
          · have h1 := Lib.decode_width_pos s pos hp
            have h2 := decode_le4 s pos
            have := nameFrom_size s f _ (n + 1) (by omega) (by omega) h
            omega
    · omega
theorem name_size {s : ByteArray} (h : nameB s = true) : s.size ≤ 128 := by
  have := nameFrom_size s s.size 0 0 (by omega) (by omega) h
  omega

def evbL (e : Ev) : List UInt8 := txtL (Lb e.kind) ++ txtL (Lb e.data)
def batL (a : Ent) : List UInt8 := txtL (Lb a.stream) ++ (numL (zig a.expect) ++ (numL a.session.toNat ++ (numL a.seq.toNat ++ (numL a.evs.length ++ a.evs.flatMap evbL))))
def entL (a : Ent) : List UInt8 := numL a.pos.toNat ++ (numL a.epoch.toNat ++ batL a)
/-- What is put of an entry that is right, or not. -/
def entP (a : Ent) : List UInt8 := if rightB a then entL a else []
def rowP (l : List Ent) : List UInt8 := if l.all rightB then numL l.length ++ l.flatMap entL else []
theorem rightE_sizes {e : Ev} (h : rightE e = true) : e.kind.size ≤ 128 ∧ e.data.size ≤ 200 := by
  simp only [rightE, Bool.and_eq_true, decide_eq_true_eq] at h
  exact ⟨name_size h.2, h.1⟩
theorem evbL_len {e : Ev} (h : rightE e = true) : (evbL e).length ≤ 340 := by
  obtain ⟨h1, h2⟩ := rightE_sizes h
  have h3 := txtL_len (l := Lb e.kind) (by rw [Lb_len]; omega)
  have h4 := txtL_len (l := Lb e.data) (by rw [Lb_len]; omega)
  rw [Lb_len] at h3 h4
  unfold evbL
  rw [List.length_append]
  omega
theorem evbL_pos (e : Ev) : 0 < (evbL e).length := by
  have := numL_pos (Lb e.kind).length
  unfold evbL txtL
  simp only [List.length_append]
  omega
theorem flat_len {α : Type} (f : α → List UInt8) (b : Nat) : ∀ l : List α, (∀ x ∈ l, (f x).length ≤ b) → (l.flatMap f).length ≤ l.length * b
  | [], _ => by simp
  | x :: l, h => by
    have h1 := h x List.mem_cons_self
    have h2 := flat_len f b l (fun y hy => h y (List.mem_cons_of_mem _ hy))
    simp only [List.flatMap_cons, List.length_append, List.length_cons, Nat.add_mul]
    omega
/-- What a batch that fits is. -/
theorem fits_zero {a : Ent} (h : fitsI a = 0) : nameB a.stream = true ∧ (-1 ≤ a.expect ∧ a.expect ≤ 274877906944) ∧ (1 ≤ a.session ∧ a.session ≤ 274877906944) ∧ (1 ≤ a.seq ∧ a.seq ≤ 274877906944) ∧ 0 < a.evs.length ∧ a.evs.length ≤ 8 ∧ ∀ e ∈ a.evs, rightE e = true := by
  unfold fitsI at h
  split at h
  · omega
  rename_i h1
  split at h
  · omega
  rename_i h2
  split at h
  · omega
  rename_i h3
  split at h
  · omega
  rename_i h4
  split at h
  · omega
  rename_i h5
  split at h
  · omega
  rename_i h6
  split at h
  · omega
  rename_i h7
  simp only [Bool.not_eq_false] at h1 h3 h4
  simp only [numB, Bool.and_eq_true, decide_eq_true_eq] at h3 h4
  refine ⟨h1, by omega, h3, h4, by omega, by omega, fun e he => ?_⟩
  cases hr : rightE e
  · exact absurd (List.any_eq_true.2 ⟨e, he, by rw [hr]; rfl⟩) h7
  · rfl
theorem batL_len {a : Ent} (h : fitsI a = 0) : (batL a).length ≤ 3000 := by
  obtain ⟨h1, ⟨h2, h2'⟩, h3, h4, h5, h6, h7⟩ := fits_zero h
  have e1 := name_size h1
  have e2 := txtL_len (l := Lb a.stream) (by rw [Lb_len]; omega)
  rw [Lb_len] at e2
  have e3 := numL_len (n := zig a.expect) (by have := zig_le h2 h2'; omega)
  have e4 := numL_len (n := a.session.toNat) (by omega)
  have e5 := numL_len (n := a.seq.toNat) (by omega)
  have e6 := numL_len (n := a.evs.length) (by omega)
  have e7 := flat_len evbL 340 a.evs (fun e he => evbL_len (h7 e he))
  have e8 : a.evs.length * 340 ≤ 8 * 340 := Nat.mul_le_mul_right _ h6
  unfold batL
  simp only [List.length_append]
  omega
theorem right_fits {a : Ent} (h : rightB a = true) : (1 ≤ a.pos ∧ a.pos ≤ 274877906944) ∧ (1 ≤ a.epoch ∧ a.epoch ≤ 274877906944) ∧ fitsI a = 0 := by
  simp only [rightB, numB, Bool.and_eq_true, decide_eq_true_eq] at h
  exact h
theorem entL_len {a : Ent} (h : rightB a = true) : (entL a).length ≤ 3100 := by
  obtain ⟨h1, h2, h3⟩ := right_fits h
  have e1 := numL_len (n := a.pos.toNat) (by omega)
  have e2 := numL_len (n := a.epoch.toNat) (by omega)
  have e3 := batL_len h3
  unfold entL
  simp only [List.length_append]
  omega
theorem entL_pos (a : Ent) : 0 < (entL a).length := by
  have := numL_pos a.pos.toNat
  unfold entL
  simp only [List.length_append]
  omega
end Go.Proofs.YtimfoijajafdpaaDoor
