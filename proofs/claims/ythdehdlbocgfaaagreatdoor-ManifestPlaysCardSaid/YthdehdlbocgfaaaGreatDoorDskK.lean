/- What acts make of a disk, in plain words. Under the stated premises. -/
import Derived.Test.YthdehdlbocgfaaaGreatDoorDskH
namespace Go.Proofs.YthdehdlbocgfaaaGreatDoor
open Go.RowKit Go.Bl

theorem app_room (d : Dk) (x s : ByteArray) : (d.app x s).2.room = d.room := by
  unfold Dk.app
  split
  · rfl
  · split
    · split
      · rfl
      · split <;> rfl
    · split <;> rfl
theorem app_err {d : Dk} {x s : ByteArray} (h : (d.app x s).1 ≠ 0) : (d.app x s).2 = d := by
  unfold Dk.app at h ⊢
  split
  · rfl
  · rename_i h1
    rw [if_neg h1] at h
    split
    · rename_i h2
      rw [h2] at h
      split
      · rfl
      · rename_i h3
        split
        · rfl
        · rename_i h4
          simp [h3, h4] at h
    · rename_i f h2
      rw [h2] at h
      split
      · rfl
      · rename_i h3
        simp [h3] at h
theorem app_used {d : Dk} (hn : (d.L.map Fl.name).Nodup) (x s : ByteArray) : (d.app x s).2.used ≤ d.used + s.size := by
  unfold Dk.app
  split
  · show d.used ≤ _; omega
  · split
    · split
      · show d.used ≤ _; omega
      · split
        · show d.used ≤ _; omega
        · show (total (d.L ++ [⟨x, s, 0⟩]) : Int) ≤ (total d.L : Int) + _
          rw [total_append]
          show ((total d.L + (s.size + 0) : Nat) : Int) ≤ _
          omega
    · rename_i f hf
      obtain ⟨hfL, rfl⟩ := find_some hf
      split
      · show d.used ≤ _; omega
      · show (total (updL f.name (growF s) d.L) : Int) ≤ (total d.L : Int) + _
        rw [total_grow s d.L f hn hfL]
        omega
theorem del_le (d : Dk) (x : ByteArray) : (d.del x).used ≤ d.used := by
  show (total (d.L.filter _) : Int) ≤ (total d.L : Int)
  have := total_filter_le (fun f => decide (f.name ≠ x)) d.L
  omega
theorem sync_used (d : Dk) (x : ByteArray) : (d.sync x).used = d.used := by
  show (total (updL x syncF d.L) : Int) = _
  rw [total_upd x syncF (fun _ => rfl) d.L]
  rfl
theorem move_used {d : Dk} (hn : (d.L.map Fl.name).Nodup) {f : Fl} (hf : f ∈ d.L) {y : ByteArray} (hy : f.name ≠ y) : (d.move f y).used = (d.del y).used := by
  have hfd : f ∈ (d.del y).L := List.mem_filter.2 ⟨hf, by simpa using hy⟩
  have hn2 : ((d.del y).L.map Fl.name).Nodup := hn.sublist (List.Sublist.map _ List.filter_sublist)
  have htot := total_del hn2 hfd
  show (total (((d.del y).del f.name).L ++ [{ f with name := y }]) : Int) = (total (d.del y).L : Int)
  rw [total_append, ← htot]
  show ((total ((d.del y).L.filter _) + (f.bytes.size + 0) : Nat) : Int) = _
  omega
theorem ren_room (d : Dk) (x y : ByteArray) : (d.ren x y).2.room = d.room := by
  unfold Dk.ren
  split
  · rfl
  · split
    · rfl
    · split <;> rfl
theorem ren_err {d : Dk} {x y : ByteArray} (h : (d.ren x y).1 ≠ 0) : (d.ren x y).2 = d := by
  unfold Dk.ren at h ⊢
  split
  · rfl
  · rename_i f h1
    rw [h1] at h
    split
    · rfl
    · rename_i h2
      split
      · rfl
      · rename_i h3
        simp [h2, h3] at h
theorem ren_used {d : Dk} (hn : (d.L.map Fl.name).Nodup) (x y : ByteArray) : (d.ren x y).2.used ≤ d.used := by
  unfold Dk.ren
  split
  · exact Int.le_refl _
  · rename_i f h1
    obtain ⟨hfL, rfl⟩ := find_some h1
    split
    · exact Int.le_refl _
    · split
      · exact Int.le_refl _
      · rename_i h3
        rw [move_used hn hfL h3]
        exact del_le d y

theorem crashN_ok {keep : List Int} {ks : List ByteArray} {L : List Fl} (h : ∀ f ∈ L, 0 ≤ f.syn ∧ f.syn ≤ f.bytes.size) : ∀ k, ∀ f ∈ crashN keep ks L k, 0 ≤ f.syn ∧ f.syn ≤ f.bytes.size
  | 0 => h
  | k + 1 => by
    intro f hf
    obtain ⟨q, hq, rfl⟩ := List.mem_map.1 (show f ∈ updL _ _ _ from hf)
    have hs := crashN_ok h k q hq
    by_cases e : q.name = (ks[k]?).getD ByteArray.empty
    · rw [if_pos e]
      have hn := keepOf_nonneg keep k
      have h1 := cutF_size hn hs
      have h2 := cutK_in hn hs
      show 0 ≤ cutK _ q ∧ cutK _ q ≤ _
      omega
    · rw [if_neg e]; exact hs
theorem crashN_le {keep : List Int} {ks : List ByteArray} {L : List Fl} (h : ∀ f ∈ L, 0 ≤ f.syn ∧ f.syn ≤ f.bytes.size) : ∀ k, total (crashN keep ks L k) ≤ total L
  | 0 => Nat.le_refl _
  | k + 1 => by
    refine Nat.le_trans (total_upd_le (x := (ks[k]?).getD ByteArray.empty) (g := cutF (keepOf keep k)) fun f hf => ?_) (crashN_le h k)
    have hs := crashN_ok (keep := keep) (ks := ks) h k f hf
    have hn := keepOf_nonneg keep k
    have h1 := cutF_size hn hs
    have h2 := cutK_in hn hs
    omega
/-- All that a disk has is synced. -/
def Whole (L : List Fl) : Prop := ∀ f ∈ L, f.syn = f.bytes.size
theorem crashN_whole {keep : List Int} {ks : List ByteArray} {L : List Fl} (h : ∀ f ∈ L, 0 ≤ f.syn ∧ f.syn ≤ f.bytes.size) : ∀ k, k ≤ ks.length → ∀ f ∈ crashN keep ks L k, f.name ∈ ks.take k → f.syn = f.bytes.size
  | 0, _ => fun f _ hm => by simp at hm
  | k + 1, hk => by
    intro f hf hm
    have hlt : k < ks.length := hk
    rw [crashN_succ keep L hlt] at hf
    obtain ⟨q, hq, rfl⟩ := List.mem_map.1 hf
    have hs := crashN_ok (keep := keep) (ks := ks) h k q hq
    by_cases e : q.name = ks[k]
    · rw [if_pos e]
      exact (cutF_size (keepOf_nonneg keep k) hs).symm
    · rw [if_neg e] at hm ⊢
      refine crashN_whole h k (by omega) q hq ?_
      rw [List.take_succ_eq_append_getElem hlt, List.mem_append, List.mem_singleton] at hm
      exact hm.resolve_right e
theorem crash_whole {keep : List Int} {ks : List ByteArray} {L : List Fl} (h : ∀ f ∈ L, 0 ≤ f.syn ∧ f.syn ≤ f.bytes.size) (hN : Names L ks) : Whole (crashN keep ks L ks.length) := fun f hf => by
  refine crashN_whole h ks.length (Nat.le_refl _) f hf ?_
  rw [List.take_length]
  have h1 : f.name ∈ (crashN keep ks L ks.length).map Fl.name := List.mem_map.2 ⟨f, hf, rfl⟩
  rw [crashN_names] at h1
  obtain ⟨q, hq, e⟩ := List.mem_map.1 h1
  exact (hN.2 _).2 ⟨q, hq, e⟩
theorem cutF_whole {n : Int} {f : Fl} (hn : 0 ≤ n) (h : f.syn = f.bytes.size) : cutF n f = f := by
  have hk : cutK n f = f.bytes.size := by unfold cutK gmin; omega
  unfold cutF
  rw [hk, Int.toNat_natCast]
  have : f.bytes.extract 0 f.bytes.size = f.bytes := ByteArray.extract_zero_size
  rw [this, ← h]
theorem updL_id {x : ByteArray} {g : Fl → Fl} {L : List Fl} (h : ∀ f ∈ L, g f = f) : updL x g L = L := by
  unfold updL
  conv => rhs; rw [← List.map_id L]
  refine List.map_congr_left fun q hq => ?_
  show (if q.name = x then g q else q) = q
  rw [h q hq]
  split <;> rfl
theorem crashN_again {keep : List Int} {ks : List ByteArray} {L : List Fl} (h : Whole L) : ∀ k, crashN keep ks L k = L
  | 0 => rfl
  | k + 1 => by
    show updL _ _ (crashN keep ks L k) = L
    rw [crashN_again h k]
    exact updL_id fun f hf => cutF_whole (keepOf_nonneg keep k) (h f hf)

theorem find_mem {d : Dk} (hn : (d.L.map Fl.name).Nodup) {f : Fl} (hf : f ∈ d.L) : d.find f.name = some f := by
  cases h : d.find f.name with
  | none => exact absurd rfl (find_none.1 h f hf)
  | some g =>
    obtain ⟨h1, h2⟩ := find_some h
    rw [nodup_at hn h1 hf h2]
theorem find_perm {r r' : Int} {L L' : List Fl} (h : L'.Perm L) (hn : (L.map Fl.name).Nodup) (x : ByteArray) : (⟨r, L'⟩ : Dk).find x = (⟨r', L⟩ : Dk).find x := by
  cases hf : (⟨r', L⟩ : Dk).find x with
  | none => exact find_none.2 fun f hf' => find_none.1 hf f (h.mem_iff.1 hf')
  | some f =>
    obtain ⟨h1, rfl⟩ := find_some hf
    exact find_mem (d := ⟨r, L'⟩) ((h.map Fl.name).nodup_iff.2 hn) (h.mem_iff.2 h1)
theorem Names.perm {L L' : List Fl} {ks : List ByteArray} (h : Names L ks) (hp : L'.Perm L) : Names L' ks := ⟨h.1, fun s => by rw [h.2]; exact ⟨fun ⟨f, hf, e⟩ => ⟨f, hp.mem_iff.2 hf, e⟩, fun ⟨f, hf, e⟩ => ⟨f, hp.mem_iff.1 hf, e⟩⟩⟩
end Go.Proofs.YthdehdlbocgfaaaGreatDoor
