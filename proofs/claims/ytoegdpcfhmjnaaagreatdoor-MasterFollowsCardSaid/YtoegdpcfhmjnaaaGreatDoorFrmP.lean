/- Frames, plain: one put, taken, and rows of them. No condition. -/
import Derived.Test.YtoegdpcfhmjnaaaGreatDoorNumP
import Derived.Test.YtoegdpcfhmjnaaaGreatDoorCrcP
namespace Go.Proofs.YtoegdpcfhmjnaaaGreatDoor

section
variable (crcU : Nat → List UInt8 → Nat)
/-- A frame: its bytes; what is taken off the front. -/
def frmL (p : List UInt8) : List UInt8 := fixL p.length ++ fixL (crcU (crcU 0 (fixL p.length)) p) ++ p
def tkF (s : List UInt8) : List UInt8 × List UInt8 × Int :=
  if s.length < 8 then ([], [], 3)
  else if unfix (s.take 4) = 0 then ([], [], 2)
  else if 8000 < unfix (s.take 4) then ([], [], 4)
  else if s.length - 8 < unfix (s.take 4) then ([], [], 3)
  else if crcU (crcU 0 (s.take 4)) ((s.drop 8).take (unfix (s.take 4))) ≠ unfix ((s.drop 4).take 4) then ([], [], 5)
  else ((s.drop 8).take (unfix (s.take 4)), (s.drop 8).drop (unfix (s.take 4)), 0)
theorem tkF_put (hc : ∀ n l, crcU n l < 4294967296) (p r : List UInt8) (h0 : 0 < p.length) (h1 : p.length ≤ 8000) : tkF crcU (frmL crcU p ++ r) = (p, r, 0) := by
  have e4 : (frmL crcU p ++ r).take 4 = fixL p.length := by unfold frmL; rw [List.append_assoc, List.append_assoc, List.take_left' (fixL_len _)]
  have d4 : (frmL crcU p ++ r).drop 4 = fixL (crcU (crcU 0 (fixL p.length)) p) ++ (p ++ r) := by unfold frmL; rw [List.append_assoc, List.append_assoc, List.drop_left' (fixL_len _)]
  have d8 : (frmL crcU p ++ r).drop 8 = p ++ r := by
    rw [show 8 = 4 + 4 from rfl, ← List.drop_drop, d4, List.drop_left' (fixL_len _)]
  have hl : (frmL crcU p ++ r).length = 8 + p.length + r.length := by unfold frmL; simp [fixL_len]; omega
  have hu : unfix (fixL p.length) = p.length := unfix_fix _ (by omega)
  unfold tkF
  rw [e4, d4, d8, hu, hl, if_neg (by omega), if_neg (by omega), if_neg (by omega), if_neg (by omega), List.take_left' rfl, List.take_left' (fixL_len _), unfix_fix _ (hc _ _), if_neg (by simp), List.drop_left' rfl]
theorem tkF_more {s p r : List UInt8} (h : tkF crcU s = (p, r, 0)) (x : List UInt8) : tkF crcU (s ++ x) = (p, r ++ x, 0) := by
  unfold tkF at h
  split at h
  · simp at h
  · rename_i h8
    split at h
    · simp at h
    · rename_i h0
      split at h
      · simp at h
      · rename_i hb
        split at h
        · simp at h
        · rename_i hl
          split at h
          · simp at h
          · rename_i hc
            simp only [Prod.mk.injEq, and_true] at h
            obtain ⟨rfl, rfl⟩ := h
            have e4 : (s ++ x).take 4 = s.take 4 := List.take_append_of_le_length (by omega)
            have d4 : ((s ++ x).drop 4).take 4 = (s.drop 4).take 4 := by
              rw [List.drop_append_of_le_length (by omega), List.take_append_of_le_length (by simp; omega)]
            have d8 : (s ++ x).drop 8 = s.drop 8 ++ x := List.drop_append_of_le_length (by omega)
            unfold tkF
            rw [e4, d4, d8, if_neg (by simp; omega), if_neg h0, if_neg hb, if_neg (by simp; omega), List.take_append_of_le_length (by simp; omega), if_neg hc, List.drop_append_of_le_length (by simp; omega)]
theorem tkF_len {s p r : List UInt8} (h : tkF crcU s = (p, r, 0)) : s.length = 8 + p.length + r.length ∧ 0 < p.length ∧ p.length ≤ 8000 := by
  unfold tkF at h
  split at h
  · simp at h
  · rename_i h8
    split at h
    · simp at h
    · rename_i h0
      split at h
      · simp at h
      · rename_i hb
        split at h
        · simp at h
        · rename_i hl
          split at h
          · simp at h
          · simp only [Prod.mk.injEq, and_true] at h
            obtain ⟨rfl, rfl⟩ := h
            simp
            omega
/-- As many frames as are whole; what is left. -/
def scanF : Nat → List UInt8 → List (List UInt8) × List UInt8
  | 0, s => ([], s)
  | f + 1, s => if (tkF crcU s).2.2 = 0 then ((tkF crcU s).1 :: (scanF f (tkF crcU s).2.1).1, (scanF f (tkF crcU s).2.1).2) else ([], s)
theorem tkF_eta {s : List UInt8} (h : (tkF crcU s).2.2 = 0) : tkF crcU s = ((tkF crcU s).1, (tkF crcU s).2.1, 0) := by
  rw [← h]
theorem scanF_fuel : ∀ (f g : Nat) (s : List UInt8), s.length ≤ f → f ≤ g → scanF crcU g s = scanF crcU f s
  | 0, 0, _, _, _ => rfl
  | 0, g + 1, s, h, _ => by
    unfold scanF
    rw [if_neg]
    intro e
    have := (tkF_len crcU (tkF_eta crcU e)).1
    omega
  | f + 1, 0, _, _, h => by omega
  | f + 1, g + 1, s, h, hg => by
    unfold scanF
    by_cases e : (tkF crcU s).2.2 = 0
    · rw [if_pos e, if_pos e]
      have := (tkF_len crcU (tkF_eta crcU e)).1
      rw [scanF_fuel f g _ (by omega) (by omega)]
    · rw [if_neg e, if_neg e]
def scanS (s : List UInt8) : List (List UInt8) × List UInt8 := scanF crcU s.length s
theorem scanS_cons {s : List UInt8} (e : (tkF crcU s).2.2 = 0) : scanS crcU s = ((tkF crcU s).1 :: (scanS crcU (tkF crcU s).2.1).1, (scanS crcU (tkF crcU s).2.1).2) := by
  have := (tkF_len crcU (tkF_eta crcU e)).1
  obtain ⟨n, hn⟩ : ∃ n, s.length = n + 1 := ⟨s.length - 1, by omega⟩
  unfold scanS
  rw [hn]
  conv => lhs; unfold scanF
  rw [if_pos e, scanF_fuel crcU _ n _ (Nat.le_refl _) (by omega)]
theorem scanS_nil {s : List UInt8} (e : (tkF crcU s).2.2 ≠ 0) : scanS crcU s = ([], s) := by
  unfold scanS
  cases h : s.length with
  | zero => rfl
  | succ n => unfold scanF; rw [if_neg e]
theorem scanS_more (hc : ∀ n l, crcU n l < 4294967296) (p : List UInt8) (h0 : 0 < p.length) (h1 : p.length ≤ 8000) : ∀ (f : Nat) (s : List UInt8), s.length ≤ f → (scanS crcU s).2 = [] → scanS crcU (s ++ frmL crcU p) = ((scanS crcU s).1 ++ [p], [])
  | f, s, hf, h => by
    by_cases e : (tkF crcU s).2.2 = 0
    · have hl := (tkF_len crcU (tkF_eta crcU e)).1
      have hm := tkF_more crcU (tkF_eta crcU e) (frmL crcU p)
      rw [scanS_cons crcU e] at h ⊢
      have e' : (tkF crcU (s ++ frmL crcU p)).2.2 = 0 := by rw [hm]
      rw [scanS_cons crcU e', hm]
      match f, hf with
      | 0, hf => omega
      | f + 1, hf =>
        rw [scanS_more hc p h0 h1 f _ (by omega) h]
        simp
    · rw [scanS_nil crcU e] at h
      simp only at h
      subst h
      have hp := tkF_put crcU hc p [] h0 h1
      rw [List.append_nil] at hp
      have e' : (tkF crcU ([] ++ frmL crcU p)).2.2 = 0 := by rw [List.nil_append, hp]
      rw [scanS_cons crcU e', scanS_nil crcU e, List.nil_append, hp]
      have e2 : (tkF crcU []).2.2 ≠ 0 := by unfold tkF; simp
      simp only [scanS_nil crcU e2]
      rfl
theorem scanS_len : ∀ (f : Nat) (s : List UInt8), s.length ≤ f → (scanS crcU s).2.length ≤ s.length ∧ (scanS crcU s).1.length * 9 + (scanS crcU s).2.length ≤ s.length
  | f, s, hf => by
    by_cases e : (tkF crcU s).2.2 = 0
    · have hl := tkF_len crcU (tkF_eta crcU e)
      rw [scanS_cons crcU e]
      match f, hf with
      | 0, hf => omega
      | f + 1, hf =>
        have := scanS_len f (tkF crcU s).2.1 (by omega)
        simp only [List.length_cons]
        omega
    · rw [scanS_nil crcU e]; simp
end
end Go.Proofs.YtoegdpcfhmjnaaaGreatDoor
