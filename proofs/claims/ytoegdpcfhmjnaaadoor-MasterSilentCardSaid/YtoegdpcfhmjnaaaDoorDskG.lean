/- The disk: Crash. Under the stated premises on sizes. -/
import Derived.Test.YtoegdpcfhmjnaaaDoorDskF
import Derived.Test.YtoegdpcfhmjnaaaDoorBlD
import Derived.Test.YtoegdpcfhmjnaaaDoorBlB
import Derived.BigRegion
namespace Go.Proofs.YtoegdpcfhmjnaaaDoor
open Go.RowKit Go.Bl
attribute [local go_sem ↓] Go.wp_at_zero Go.wp_at_succ

def intc (n : Int) : List Value := [.int .i64 n]
/-- How many bytes more are kept of the file of place i. -/
def keepOf (keep : List Int) (i : Nat) : Int := gmax ((keep[i]?).getD 0) 0
def cutK (n : Int) (f : Fl) : Int := f.syn + gmin n ((f.bytes.size : Int) - f.syn)
def cutF (n : Int) (f : Fl) : Fl := { f with bytes := f.bytes.extract 0 (cutK n f).toNat, syn := cutK n f }
/-- The first k files, of the names ks, behind a crash. -/
def crashN (keep : List Int) (ks : List ByteArray) (L : List Fl) : Nat → List Fl
  | 0 => L
  | k + 1 => updL ((ks[k]?).getD ByteArray.empty) (cutF (keepOf keep k)) (crashN keep ks L k)
theorem keepOf_nonneg (keep : List Int) (i : Nat) : 0 ≤ keepOf keep i := by unfold keepOf gmax; omega
theorem keepOf_in {keep : List Int} {i : Nat} (h : i < keep.length) : gmax keep[i] 0 = keepOf keep i := by unfold keepOf; rw [List.getElem?_eq_getElem h]; rfl
theorem keepOf_out {keep : List Int} {i : Nat} (h : ¬ i < keep.length) : keepOf keep i = 0 := by unfold keepOf; rw [List.getElem?_eq_none (by omega)]; rfl
theorem cutK_in {n : Int} {f : Fl} (hn : 0 ≤ n) (h : 0 ≤ f.syn ∧ f.syn ≤ f.bytes.size) : f.syn ≤ cutK n f ∧ cutK n f ≤ f.bytes.size := by unfold cutK gmin; omega
theorem extract_size (s : ByteArray) {k : Nat} (h : k ≤ s.size) : (s.extract 0 k).size = k := by rw [ByteArray.size_extract]; omega
theorem updL_names (x : ByteArray) {g : Fl → Fl} (hg : ∀ f, (g f).name = f.name) (L : List Fl) : (updL x g L).map Fl.name = L.map Fl.name := by
  unfold updL
  rw [List.map_map]
  refine List.map_congr_left fun f _ => ?_
  show (if f.name = x then g f else f).name = f.name
  split
  · rw [hg]
  · rfl
theorem crashN_names (keep : List Int) (ks : List ByteArray) (L : List Fl) : ∀ k, (crashN keep ks L k).map Fl.name = L.map Fl.name
  | 0 => rfl
  | k + 1 => by
    show (updL _ _ _).map Fl.name = _
    rw [updL_names _ (g := cutF (keepOf keep k)) (fun _ => rfl), crashN_names keep ks L k]
theorem total_cons (f : Fl) (L : List Fl) : total (f :: L) = f.bytes.size + total L := by simp [total]
theorem updL_cons (x : ByteArray) (g : Fl → Fl) (f : Fl) (L : List Fl) : updL x g (f :: L) = (if f.name = x then g f else f) :: updL x g L := rfl
theorem updL_not {x : ByteArray} {g : Fl → Fl} {L : List Fl} (h : ∀ f ∈ L, f.name ≠ x) : updL x g L = L := by
  unfold updL
  conv => rhs; rw [← List.map_id L]
  refine List.map_congr_left fun q hq => ?_
  rw [if_neg (h q hq)]
  rfl
/-- What the files of some names hold together, one of them turned. -/
theorem total_filter_upd {S S' : ByteArray → Bool} {g : Fl → Fl} (hg : ∀ f, (g f).name = f.name) {f : Fl} (hS : S f.name = false) (hS' : ∀ y, S' y = (S y || decide (y = f.name))) :
    ∀ {L : List Fl}, (L.map Fl.name).Nodup → f ∈ L → total ((updL f.name g L).filter fun q => S' q.name) = total (L.filter fun q => S q.name) + (g f).bytes.size
  | [], _, hf => by cases hf
  | q :: L, hn, hf => by
    rw [List.map_cons, List.nodup_cons] at hn
    rcases List.mem_cons.1 hf with e | hf
    · subst e
      have h0 : ∀ r ∈ L, r.name ≠ f.name := fun r hr e => hn.1 (List.mem_map.2 ⟨r, hr, e⟩)
      rw [updL_cons, if_pos rfl, updL_not h0, List.filter_cons_of_pos (by rw [hg, hS']; simp), List.filter_cons_of_neg (by rw [hS]; decide), total_cons]
      have : (L.filter fun q => S' q.name) = L.filter fun q => S q.name := List.filter_congr fun r hr => by rw [hS']; simp [h0 r hr]
      rw [this]
      omega
    · have hne : q.name ≠ f.name := fun e => hn.1 (List.mem_map.2 ⟨f, hf, e.symm⟩)
      have ih := total_filter_upd hg hS hS' hn.2 hf
      rw [updL_cons, if_neg hne]
      have e : S' q.name = S q.name := by rw [hS']; simp [hne]
      cases hq : S q.name
      · rw [List.filter_cons_of_neg (by rw [e, hq]; decide), List.filter_cons_of_neg (by rw [hq]; decide)]
        exact ih
      · rw [List.filter_cons_of_pos (by rw [e, hq]), List.filter_cons_of_pos (by rw [hq]), total_cons, total_cons]
        omega
theorem total_upd_le {x : ByteArray} {g : Fl → Fl} : ∀ {L : List Fl}, (∀ f ∈ L, (g f).bytes.size ≤ f.bytes.size) → total (updL x g L) ≤ total L
  | [], _ => Nat.le_refl _
  | q :: L, h => by
    have ih := total_upd_le (x := x) (g := g) (L := L) (fun f hf => h f (List.mem_cons_of_mem _ hf))
    rw [updL_cons, total_cons, total_cons]
    have := h q (List.mem_cons_self ..)
    split <;> omega
theorem crashN_succ (keep : List Int) {ks : List ByteArray} (L : List Fl) {k : Nat} (h : k < ks.length) : crashN keep ks L (k + 1) = updL ks[k] (cutF (keepOf keep k)) (crashN keep ks L k) := by
  show updL ((ks[k]?).getD _) _ _ = _
  rw [List.getElem?_eq_getElem h]
  rfl
theorem cutF_size {n : Int} {f : Fl} (hn : 0 ≤ n) (h : 0 ≤ f.syn ∧ f.syn ≤ f.bytes.size) : ((cutF n f).bytes.size : Int) = cutK n f := by
  have := cutK_in hn h
  show ((f.bytes.extract 0 (cutK n f).toNat).size : Int) = _
  rw [extract_size _ (by omega)]
  omega

theorem total_filter_le (P : Fl → Bool) : ∀ L : List Fl, total (L.filter P) ≤ total L
  | [] => Nat.le_refl _
  | f :: L => by
    have ih := total_filter_le P L
    rw [List.filter_cons, total_cons]
    split
    · rw [total_cons]; omega
    · omega
def amid (ks : List ByteArray) (y : ByteArray) : Bool := ks.any fun x => decide (x = y)
theorem amid_iff {ks : List ByteArray} {y : ByteArray} : amid ks y = true ↔ y ∈ ks := by simp [amid]
theorem amid_succ {ks : List ByteArray} {k : Nat} (h : k < ks.length) (y : ByteArray) : amid (ks.take (k + 1)) y = (amid (ks.take k) y || decide (y = ks[k])) := by
  unfold amid
  rw [List.take_succ_eq_append_getElem h, List.any_append]
  simp [eq_comm]
theorem amid_not {ks : List ByteArray} {k : Nat} (h : k < ks.length) (hr : Rising ks) : amid (ks.take k) ks[k] = false := by
  cases e : amid (ks.take k) ks[k] with
  | false => rfl
  | true =>
    obtain ⟨i, hi, e2⟩ := List.mem_iff_getElem.1 (amid_iff.1 e)
    rw [List.length_take] at hi
    rw [List.getElem_take] at e2
    exact absurd (e2 ▸ List.pairwise_iff_getElem.1 hr i k (by omega) h (by omega)) (fun h => by rw [bLt_iff] at h; exact List.lt_irrefl _ h)

end Go.Proofs.YtoegdpcfhmjnaaaDoor
