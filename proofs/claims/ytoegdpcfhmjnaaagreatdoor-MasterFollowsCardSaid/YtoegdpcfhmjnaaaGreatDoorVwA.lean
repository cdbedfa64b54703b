/- Rows of numbers: where one is, a copy, a row without one. Under the stated premises on sizes. -/
import Derived.Test.YtoegdpcfhmjnaaaGreatDoorLayC
import Derived.Test.YtoegdpcfhmjnaaaGreatDoorDskG
import Derived.Test.YtoegdpcfhmjnaaaGreatDoorBlL
import Derived.Shelf.SlicesE.Delete
import Derived.Shelf.SlicesE.Clone
namespace Go.Proofs.YtoegdpcfhmjnaaaGreatDoor
open Go.RowKit Go.Bl Go.Shelf
attribute [local go_sem ↓] Go.wp_at_zero Go.wp_at_succ

/-- The first place of a number, counted from k on; -1: none. -/
def idxI (x : Int) : Int → List Int → Int
  | _, [] => -1
  | k, y :: l => if x = y then k else idxI x (k + 1) l
theorem idxI_bd (x : Int) : ∀ (k : Int) (l : List Int), 0 ≤ k → -1 ≤ idxI x k l ∧ idxI x k l < k + l.length + 1 ∧ (0 ≤ idxI x k l ↔ x ∈ l)
  | k, [], h => by simp [idxI]; omega
  | k, y :: l, h => by
    unfold idxI
    by_cases e : x = y
    · rw [if_pos e, List.length_cons]
      exact ⟨by omega, by omega, fun _ => by rw [e]; exact List.mem_cons_self, fun _ => h⟩
    · rw [if_neg e, List.length_cons]
      have := idxI_bd x (k + 1) l (by omega)
      exact ⟨this.1, by have := this.2.1; omega, by rw [this.2.2, List.mem_cons]; exact ⟨.inr, fun h => h.resolve_left e⟩⟩
theorem idxI_get (x : Int) : ∀ (k : Int) (l : List Int), 0 ≤ k → x ∈ l → ∃ i : Nat, idxI x k l = k + i ∧ l[i]? = some x
  | k, [], _, h => by cases h
  | k, y :: l, hk, h => by
    unfold idxI
    by_cases e : x = y
    · rw [if_pos e]
      exact ⟨0, by omega, by rw [e]; rfl⟩
    · rw [if_neg e]
      obtain ⟨i, h1, h2⟩ := idxI_get x (k + 1) l (by omega) ((List.mem_cons.1 h).resolve_left e)
      exact ⟨i + 1, by omega, by rw [List.getElem?_cons_succ]; exact h2⟩
theorem idxI_drop {x : Int} {l : List Int} {k : Nat} (h : k < l.length) : idxI x k (l.drop k) = if x = l[k] then (k : Int) else idxI x ((k + 1 : Nat) : Int) (l.drop (k + 1)) := by
  rw [List.drop_eq_getElem_cons h, idxI]
  norm_cast
theorem index_any (w : World) (F : Nat → Prop) (v : Value) (l : List Int) (h : Sl w F 1 intc v l) (x : Int) : Calls Tryz.prog 38 #[v, .int .i64 x] w fun e w' => e = .returned (.int .i64 (idxI x 0 l)) ∧ w = w' := by
  obtain ⟨A, c, rfl, hA1, hA2⟩ := h.shape
  unfold maxLen at hA2
  have H := Lib.hid h
  clear h
  go_enter Tryz.func38, Tryz.ntmps38
  go_wp2_with fail
  go_loop [8, 5] (fun i _ => ∃ (k : Nat), k ≤ l.length ∧ i = .int .i64 k ∧ Hid (idxI x 0 l = idxI x k (l.drop k))) (fun i _ => l.length - (intOf i).toNat)
  case atStart => exact ⟨0, Nat.zero_le _, rfl, Lib.hid rfl⟩
  case round =>
    obtain ⟨k, hk, rfl, hr⟩ := hrel
    by_cases hlt : k < l.length
    · have d0 : decide ((k : Int) < (l.length : Int)) = true := by simp; omega
      obtain ⟨q, o, rfl, _, _, hxx⟩ := H.out.cell_ hlt
      have x0 := hxx 0 _ rfl
      rw [Nat.mul_one, Nat.add_zero] at x0
      have hs := idxI_drop (x := x) hlt
      rw [← hr.out] at hs
      obtain ⟨y, hy⟩ : ∃ y, y = l[k] := ⟨_, rfl⟩
      rw [← hy] at x0 hs
      by_cases e : x = y
      · rw [if_pos e] at hs
        have d1 : (x == y) = true := by simpa using e
        have HS := Lib.hid hs
        clear hxx hy hs hr e
        go_wp2_with fail
        go_ret
        rw [HS.out]
        exact ⟨rfl, rfl⟩
      · rw [if_neg e] at hs
        have d1 : (x == y) = false := by simpa using e
        have HS := Lib.hid hs
        clear hxx hy hs hr e
        go_wp2_with fail
        go_round
        case rel => exact ⟨k + 1, hlt, by go_num, HS⟩
        case measure => simp [intOf]; omega
    · have hkl : k = l.length := by omega
      subst hkl
      have hs := hr.out
      rw [List.drop_length] at hs
      have HS : Hid (idxI x 0 l = -1) := Lib.hid hs
      clear hs hr
      have d0 : decide ((l.length : Int) < (l.length : Int)) = false := by simp
      go_wp2_with fail
      go_ret
      rw [HS.out]
      exact ⟨rfl, rfl⟩
theorem contains_any (w : World) (F : Nat → Prop) (v : Value) (l : List Int) (h : Sl w F 1 intc v l) (x : Int) : Calls Tryz.prog 46 #[v, .int .i64 x] w fun e w' => e = .returned (.bool (decide (x ∈ l))) ∧ w = w' := by
  have hc := index_any w F v l h x
  have hb := (idxI_bd x 0 l (Int.le_refl _)).2.2
  obtain ⟨r, hr⟩ : ∃ r, r = idxI x 0 l := ⟨_, rfl⟩
  rw [← hr] at hc hb
  have hd : decide (x ∈ l) = decide (0 ≤ r) := decide_eq_decide.2 hb.symm
  rw [hd]
  obtain ⟨A, c, rfl, hA1, hA2⟩ := h.shape
  have HC := Lib.hid hc
  clear hc h hr hb hd
  go_enter Tryz.func46, Tryz.ntmps46
  go_wp2_with fail
  refine HC.out.mono ?_
  rintro e w1 ⟨rfl, rfl⟩
  go_wp2_with fail
  go_ret
  exact ⟨rfl, rfl⟩
/-- What is at a place of a row; 0: there is none. -/
def atI (l : List Int) (i : Int) : Int := if i < 0 ∨ (l.length : Int) ≤ i then 0 else l.getD i.toNat 0
theorem atI_in {l : List Int} {i : Nat} (h : i < l.length) : atI l i = l[i] := by
  unfold atI
  rw [if_neg (by omega), Int.toNat_natCast, List.getD_eq_getElem?_getD, List.getElem?_eq_getElem h]
  rfl
theorem at_any (w : World) (F : Nat → Prop) (v : Value) (l : List Int) (h : Sl w F 1 intc v l) (i : Int) : Calls Tryz.prog 47 #[v, .int .i64 i] w fun e w' => e = .returned (.int .i64 (atI l i)) ∧ Below w.heap.size w w' := by
  obtain ⟨A, c, rfl, hA1, hA2⟩ := h.shape
  unfold maxLen at hA2
  by_cases hi : i < 0
  · have d0 : decide (i < 0) = true := by simpa using hi
    have hr : atI l i = 0 := by unfold atI; rw [if_pos (.inl hi)]
    rw [hr]
    clear h hr
    go_enter Tryz.func47, Tryz.ntmps47
    go_wp2_with fail
    go_ret
    exact ⟨rfl, (Below.refl _ _).alloc (Nat.le_refl _) _⟩
  have d0 : decide (i < 0) = false := by simpa using hi
  by_cases hl : (l.length : Int) ≤ i
  · have d1 : decide ((l.length : Int) ≤ i) = true := by simpa using hl
    have hr : atI l i = 0 := by unfold atI; rw [if_pos (.inr hl)]
    rw [hr]
    clear h hr
    go_enter Tryz.func47, Tryz.ntmps47
    go_wp2_with fail
    go_ret
    exact ⟨rfl, (Below.refl _ _).alloc (Nat.le_refl _) _⟩
  have d1 : decide ((l.length : Int) ≤ i) = false := by simpa using hl
  obtain ⟨n, rfl⟩ : ∃ n : Nat, i = (n : Int) := ⟨i.toNat, by omega⟩
  have hn : n < l.length := by omega
  have hr : atI l n = l[n] := atI_in hn
  rw [hr]
  obtain ⟨q, o, rfl, _, _, hxx⟩ := h.cell_ hn
  have x0 := hxx 0 _ rfl
  rw [Nat.mul_one, Nat.add_zero] at x0
  obtain ⟨y, hy⟩ : ∃ y, y = l[n] := ⟨_, rfl⟩
  rw [← hy] at x0 ⊢
  clear h hr hxx hy
  go_enter Tryz.func47, Tryz.ntmps47
  go_wp2_with fail
  go_ret
  exact ⟨rfl, Below.refl _ _⟩

theorem intc_one (x : Int) (u : Value) (h : u ∈ intc x) : u.oneCell' = true := by
  obtain rfl := List.mem_singleton.1 h
  rfl
theorem infoInt : (Tryz.prog.info? 3).map (fun i => (i.zero, i.size, i.bytes)) = some (some (.int .i64 0), 1, 8) := by kernel_rfl
theorem elInt : El Tryz.prog 22 3 1 8 intc := ⟨Tryz.underlying22, ⟨_, infoInt, rfl⟩, by decide, by decide, fun _ => rfl, intc_one⟩
theorem sizeInt (w : World) : (sizeOf 3).run Tryz.prog w = .ok 1 w := by kernel_rfl
theorem zeroInt (w : World) : (zeroValue 3).run Tryz.prog w = .ok (.int .i64 0) w := by kernel_rfl
theorem clone_nil (w : World) (n c : Nat) : Calls Tryz.prog 30 #[.slice none n c] w fun e w' => e = .returned (.slice none 0 0) ∧ w' = w := AnyE.slices_Clone_nil Tryz.sclone30 n c w
/-- A copy of a row that is none of nothing. -/
theorem clone_some (w : World) (b o n c : Nat) (l : List Int) (F : Nat → Prop) (hS : Sl w F 1 intc (.slice (some ⟨b, o, none⟩) n c) l) (hl : l.length ≤ 1073741824) :
    Calls Tryz.prog 30 #[.slice (some ⟨b, o, none⟩) n c] w fun e w' => ∃ v', e = .returned v' ∧ Own w' w.heap.size 3 1 intc v' l ∧ v' ≠ .slice none 0 0 ∧ Below w.heap.size w w' := by
  obtain ⟨i0, hi, h1, h2, h3⟩ := info_parts infoInt
  have hlen := flatMap_len intc 1 (fun _ => rfl) l
  have hn := hS.len_
  subst hn
  refine (AnyE.slices_Clone Tryz.sclone30 i0 _ 1 8 hi h1 h2 h3 rfl (by decide) sizeInt b o l.length c (l.flatMap intc) w hlen (by unfold maxLen; omega) (by omega) ?_ ?_).mono ?_
  · intro j u hu
    have hj : j < l.length * 1 := by rw [← hlen]; exact (List.getElem?_eq_some_iff.1 hu).1
    have hj' : j < l.length := by omega
    have h := flatMap_at intc 1 (fun _ => rfl) l j hj' 0 (by omega)
    rw [Nat.mul_one, Nat.add_zero, hu] at h
    have hc := h
    obtain ⟨b', o', e, _, _, hcell⟩ := hS.cell_ hj'
    cases e
    have := hcell 0 u hc.symm
    rw [Nat.mul_one, Nat.add_zero] at this
    exact this
  · intro u hu
    obtain ⟨x, _, hx⟩ := List.mem_flatMap.1 hu
    exact intc_one x u hx
  · rintro e w' ⟨v', rfl, h4, h6, h5⟩
    exact ⟨v', rfl, h4, h6, h5⟩
end Go.Proofs.YtoegdpcfhmjnaaaGreatDoor
