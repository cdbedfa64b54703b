/- A disk whose last file is our own: what acts make of it, in plain words. Under the stated premises. -/
import Derived.Test.YthdehdlbocgfaaaGreatDoorDskK
namespace Go.Proofs.YthdehdlbocgfaaaGreatDoor
open Go.RowKit Go.Bl

/-- The files L, and one more behind them. -/
def dkL (room : Int) (L : List Fl) (x b : ByteArray) (σ : Int) : Dk := ⟨room, L ++ [⟨x, b, σ⟩]⟩
section
variable {room : Int} {L : List Fl} {x y b s : ByteArray} {σ : Int}
theorem find_last (h : ∀ f ∈ L, f.name ≠ x) : (dkL room L x b σ).find x = some ⟨x, b, σ⟩ := by
  show List.find? _ (L ++ [_]) = _
  rw [List.find?_append, List.find?_eq_none.2 (by simpa using h)]
  simp
theorem find_other (h : ∀ f ∈ L, f.name ≠ y) (hxy : x ≠ y) : (dkL room L x b σ).find y = none := find_none.2 fun f hf => by
  rcases List.mem_append.1 hf with hf | hf
  · exact h f hf
  · obtain rfl := List.mem_singleton.1 hf
    exact hxy
theorem upd_last {g : Fl → Fl} (h : ∀ f ∈ L, f.name ≠ x) : updL x g (dkL room L x b σ).L = L ++ [g ⟨x, b, σ⟩] := by
  show updL x g (L ++ [⟨x, b, σ⟩]) = _
  unfold updL
  rw [List.map_append]
  have := updL_not (g := g) h
  unfold updL at this
  rw [this]
  simp
theorem del_last (h : ∀ f ∈ L, f.name ≠ x) : (dkL room L x b σ).del x = ⟨room, L⟩ := by
  show (⟨room, (L ++ [(⟨x, b, σ⟩ : Fl)]).filter (fun f => decide (f.name ≠ x))⟩ : Dk) = _
  rw [List.filter_append, filter_all h]
  simp
theorem del_not {d : Dk} (h : ∀ f ∈ d.L, f.name ≠ y) : d.del y = d := del_none (find_none.2 h)
theorem used_last : (dkL room L x b σ).used = (total L : Int) + b.size := by
  show (total (L ++ [_]) : Int) = _
  rw [total_append]
  show ((total L + (b.size + 0) : Nat) : Int) = _
  omega
theorem app_new (hn : nameB x = true) (h : ∀ f ∈ L, f.name ≠ x) (hl : L.length < 40) (hr : ¬ room - (total L : Int) < s.size) : (⟨room, L⟩ : Dk).app x s = (0, dkL room L x s 0) := by
  unfold Dk.app
  rw [if_neg (by rw [hn]; decide), find_none.2 h]
  show (if _ then _ else _) = _
  rw [if_neg (by show ¬ 40 ≤ L.length; omega), if_neg (show ¬ (⟨room, L⟩ : Dk).room - (⟨room, L⟩ : Dk).used < s.size from hr)]
  rfl
theorem app_long (hn : nameB x = true) (h : ∀ f ∈ L, f.name ≠ x) (hl : 40 ≤ L.length) : (⟨room, L⟩ : Dk).app x s = (4, ⟨room, L⟩) := by
  unfold Dk.app
  rw [if_neg (by rw [hn]; decide), find_none.2 h]
  show (if _ then _ else _) = _
  rw [if_pos hl]
theorem sync_last (h : ∀ f ∈ L, f.name ≠ x) : (dkL room L x b σ).sync x = dkL room L x b b.size := by
  show (⟨room, updL x syncF (dkL room L x b σ).L⟩ : Dk) = _
  rw [upd_last h]
  rfl
theorem app_last (hn : nameB x = true) (h : ∀ f ∈ L, f.name ≠ x) (hr : ¬ room - ((total L : Int) + b.size) < s.size) : (dkL room L x b σ).app x s = (0, dkL room L x (b ++ s) σ) := by
  unfold Dk.app
  rw [if_neg (by rw [hn]; decide), find_last h]
  show (if _ then _ else _) = _
  rw [if_neg (by rw [used_last]; exact hr)]
  show ((0 : Int), (⟨room, updL x (growF s) (dkL room L x b σ).L⟩ : Dk)) = _
  rw [upd_last h]
  rfl
theorem ren_last (hn : nameB y = true) (h : ∀ f ∈ L, f.name ≠ x) (hy : ∀ f ∈ L, f.name ≠ y) (hxy : x ≠ y) : (dkL room L x b σ).ren x y = (0, dkL room L y b σ) := by
  unfold Dk.ren
  rw [find_last h]
  show (if _ then _ else _) = _
  rw [if_neg (by rw [hn]; decide), if_neg hxy]
  show ((0 : Int), (⟨room, (((dkL room L x b σ).del y).del x).L ++ [⟨y, b, σ⟩]⟩ : Dk)) = _
  rw [del_not (y := y) (fun f hf => find_none.1 (find_other hy hxy) f hf), del_last h]
  rfl
theorem ren_self (hn : nameB x = true) (h : ∀ f ∈ L, f.name ≠ x) : (dkL room L x b σ).ren x x = (0, dkL room L x b σ) := by
  unfold Dk.ren
  rw [find_last h]
  show (if _ then _ else _) = _
  rw [if_neg (by rw [hn]; decide), if_pos rfl]
theorem ren_none (h : ∀ f ∈ L, f.name ≠ y) (hxy : x ≠ y) (z : ByteArray) : (dkL room L x b σ).ren y z = (6, dkL room L x b σ) := by
  unfold Dk.ren
  rw [find_other h hxy]

/-- A crash that keeps as much of each file, where all others are whole. -/
theorem crash_last {keep : List Int} {ks : List ByteArray} {m : Int} (hW : Whole L) (h : ∀ f ∈ L, f.name ≠ x) (hr : Rising ks) (hk : ∀ i, i < ks.length → keepOf keep i = m) (hm : 0 ≤ m) :
    ∀ k, k ≤ ks.length → crashN keep ks (dkL room L x b σ).L k = L ++ [if amid (ks.take k) x = true then cutF m ⟨x, b, σ⟩ else ⟨x, b, σ⟩]
  | 0, _ => by simp [crashN, amid]; rfl
  | k + 1, hk1 => by
    have hlt : k < ks.length := hk1
    rw [crashN_succ keep _ hlt, crash_last hW h hr hk hm k (by omega), hk k hlt]
    unfold updL
    rw [List.map_append]
    have h1 : (L.map fun f => if f.name = ks[k] then cutF m f else f) = L := by
      have := updL_id (x := ks[k]) (g := cutF m) (L := L) (fun f hf => cutF_whole hm (hW f hf))
      exact this
    rw [h1, amid_succ hlt]
    by_cases e : x = ks[k]
    · have e0 : amid (ks.take k) x = false := by rw [e]; exact amid_not hlt hr
      rw [e0]
      simp [e]
    · cases ha : amid (ks.take k) x
      · simp [e]
      · have hcn : (cutF m ⟨x, b, σ⟩).name = x := rfl
        simp [e, hcn]
end
def sOwn : ByteArray := ⟨#[111, 119, 110]⟩
def sOther : ByteArray := ⟨#[111, 116, 104, 101, 114]⟩
def sThird : ByteArray := ⟨#[116, 104, 105, 114, 100]⟩
theorem own_name : nameB sOwn = true := by kernel_rfl
theorem other_name : nameB sOther = true := by kernel_rfl
theorem own_ne : sOwn ≠ sOther := by decide
end Go.Proofs.YthdehdlbocgfaaaGreatDoor
