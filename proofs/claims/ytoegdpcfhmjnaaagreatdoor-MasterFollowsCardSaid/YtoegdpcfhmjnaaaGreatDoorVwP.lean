/- Views as bytes, and rows of frames of views. Plain; no condition. -/
import Derived.Test.YtoegdpcfhmjnaaaGreatDoorVwN
import Derived.Test.YtoegdpcfhmjnaaaGreatDoorCodN
import Derived.Test.YtoegdpcfhmjnaaaGreatDoorFrmP
namespace Go.Proofs.YtoegdpcfhmjnaaaGreatDoor
open Go.RowKit Go.Bl

def ndI (x : Nd) : List Nat := [x.node.toNat, x.since.toNat, x.boot.toNat]
/-- The numbers of a view, in the order of its bytes. -/
def vwI (v : Vw) : List Nat := v.ep.toNat :: v.L.length :: v.L.flatMap ndI
def vwL (v : Vw) : List UInt8 := (vwI v).flatMap numL
theorem vwI_len (v : Vw) : (vwI v).length = 2 + 3 * v.L.length := by
  have : ∀ l : List Nd, (l.flatMap ndI).length = 3 * l.length := fun l => by
    induction l with
    | nil => rfl
    | cons x l ih => rw [List.flatMap_cons, List.length_append, ih, List.length_cons]; show 3 + _ = _; omega
  unfold vwI
  rw [List.length_cons, List.length_cons, this]
  omega
theorem vwI_le {v : Vw} (h : RightV v) : ∀ n ∈ vwI v, n ≤ 274877906944 := by
  intro n hn
  unfold vwI at hn
  have e1 := h.ep1
  have e2 := h.ep2
  have n2 := h.n2
  rcases List.mem_cons.1 hn with rfl | hn
  · omega
  rcases List.mem_cons.1 hn with rfl | hn
  · omega
  obtain ⟨x, hx, hn⟩ := List.mem_flatMap.1 hn
  have hb := h.bd x hx
  unfold ndI at hn
  simp only [List.mem_cons, List.not_mem_nil, or_false] at hn
  omega
theorem flat_num_len : ∀ {l : List Nat}, (∀ n ∈ l, n ≤ 274877906944) → (l.flatMap numL).length ≤ 6 * l.length
  | [], _ => by simp
  | n :: l, h => by
    rw [List.flatMap_cons, List.length_append, List.length_cons]
    have h1 := numL_len (n := n) (by have := h n List.mem_cons_self; omega)
    have h2 := flat_num_len (l := l) fun m hm => h m (List.mem_cons_of_mem _ hm)
    omega
theorem vwL_len {v : Vw} (h : RightV v) : 0 < (vwL v).length ∧ (vwL v).length ≤ 120 := by
  have h1 := flat_num_len (vwI_le h)
  have h2 := vwI_len v
  have h3 := h.n2
  refine ⟨?_, by unfold vwL; omega⟩
  unfold vwL vwI
  rw [List.flatMap_cons, List.length_append]
  have := numL_pos v.ep.toNat
  omega
/-- What is at the place of a node's numbers. -/
theorem vwI_node : ∀ (l : List Nd) (k : Nat) (h : k < l.length), (l.flatMap ndI)[3 * k]? = some l[k].node.toNat ∧ (l.flatMap ndI)[3 * k + 1]? = some l[k].since.toNat ∧ (l.flatMap ndI)[3 * k + 2]? = some l[k].boot.toNat
  | [], _, h => by simp at h
  | x :: l, 0, _ => ⟨rfl, rfl, rfl⟩
  | x :: l, k + 1, h => by
    have := vwI_node l k (by simpa using h)
    rw [List.flatMap_cons, show ndI x = [x.node.toNat, x.since.toNat, x.boot.toNat] from rfl]
    exact ⟨this.1, this.2.1, this.2.2⟩
theorem vwI_at {v : Vw} {k : Nat} (h : k < v.L.length) : (vwI v)[2 + 3 * k]? = some v.L[k].node.toNat ∧ (vwI v)[2 + 3 * k + 1]? = some v.L[k].since.toNat ∧ (vwI v)[2 + 3 * k + 2]? = some v.L[k].boot.toNat := by
  have := vwI_node v.L k h
  unfold vwI
  rw [show 2 + 3 * k = (3 * k + 1) + 1 by omega, show 3 * k + 1 + 1 + 1 = (3 * k + 1 + 1) + 1 by omega, show 3 * k + 1 + 1 + 2 = (3 * k + 2 + 1) + 1 by omega]
  simp only [List.getElem?_cons_succ]
  exact this

def vfL (v : Vw) : List UInt8 := frmL crcU (vwL v)
theorem vfL_len {v : Vw} (h : RightV v) : 0 < (vfL v).length ∧ (vfL v).length ≤ 128 := by
  have := vwL_len h
  unfold vfL frmL
  rw [List.length_append, List.length_append, fixL_len, fixL_len]
  omega
def vsL (vs : List Vw) : List UInt8 := vs.flatMap vfL
/-- Right views, one behind the other, whose epochs rise. -/
def VsUp : Int → List Vw → Prop
  | _, [] => True
  | a, v :: l => a < v.ep ∧ RightV v ∧ VsUp v.ep l
def lastV : Vw → List Vw → Vw
  | a, [] => a
  | _, v :: l => lastV v l
theorem vsL_len : ∀ {a : Int} {vs : List Vw}, VsUp a vs → (vsL vs).length ≤ 128 * vs.length
  | _, [], _ => by simp [vsL]
  | a, v :: l, h => by
    have h1 := vfL_len h.2.1
    have h2 := vsL_len h.2.2
    show (vfL v ++ vsL l).length ≤ _
    rw [List.length_append, List.length_cons]
    omega
theorem scan_vs : ∀ (a : Int) (vs : List Vw), VsUp a vs → scanS crcU (vsL vs) = (vs.map vwL, [])
  | _, [], _ => by
    have e2 : (tkF crcU []).2.2 ≠ 0 := by unfold tkF; simp
    exact scanS_nil crcU e2
  | a, v :: l, h => by
    obtain ⟨h1, h2, h3⟩ := h
    have hp := vwL_len h2
    have ht := tkF_put crcU crcU_lt (vwL v) (vsL l) hp.1 (by omega)
    have he : vsL (v :: l) = frmL crcU (vwL v) ++ vsL l := rfl
    have e0 : (tkF crcU (vsL (v :: l))).2.2 = 0 := by rw [he, ht]
    rw [scanS_cons crcU e0, he, ht]
    simp only [scan_vs v.ep l h3, List.map_cons]
theorem vsUp_snoc : ∀ {a : Vw} {vs : List Vw} {v : Vw}, VsUp a.ep vs → (lastV a vs).ep < v.ep → RightV v → VsUp a.ep (vs ++ [v])
  | _, [], _, _, h1, h2 => ⟨h1, h2, trivial⟩
  | _, _ :: _, _, h, h1, h2 => ⟨h.1, h.2.1, vsUp_snoc h.2.2 h1 h2⟩
theorem lastV_snoc : ∀ (a : Vw) (vs : List Vw) (v : Vw), lastV a (vs ++ [v]) = v
  | _, [], _ => rfl
  | _, e :: l, v => lastV_snoc e l v
theorem lastV_right : ∀ {a : Vw} {vs : List Vw}, VsUp a.ep vs → vs ≠ [] → RightV (lastV a vs)
  | _, [], _, h => absurd rfl h
  | _, [v], h, _ => h.2.1
  | _, v :: u :: l, h, _ => lastV_right (a := v) (vs := u :: l) h.2.2 (by simp)
theorem vsUp_bd : ∀ {a : Int} {vs : List Vw}, VsUp a vs → ∀ v ∈ vs, RightV v ∧ a < v.ep
  | _, [], _, _, h => by cases h
  | a, u :: l, h, v, hv => by
    rcases List.mem_cons.1 hv with rfl | hv
    · exact ⟨h.2.1, h.1⟩
    · have := vsUp_bd h.2.2 v hv
      exact ⟨this.1, Int.lt_trans h.1 this.2⟩
end Go.Proofs.YtoegdpcfhmjnaaaGreatDoor
