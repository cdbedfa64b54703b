/- sameInts: do two slices have the same numbers? No condition. -/
import Derived.Test.YthdehdlbocgfaaaGreatDoorDskG
namespace Go.Proofs.YthdehdlbocgfaaaGreatDoor
open Go.RowKit Go.Bl
attribute [local go_sem ↓] Go.wp_at_zero Go.wp_at_succ

set_option maxHeartbeats 400000 in
theorem sameInts_any (w : World) (G G' : Nat → Prop) (va vb : Value) (xs ys : List Int) (ha : Sl w G 1 intc va xs) (hb : Sl w G' 1 intc vb ys) :
    Calls Tryz.prog 12 #[va, vb] w fun e w' => e = .returned (.bool (decide (xs = ys))) ∧ ∃ q, w' = w.drewN q := by
  obtain ⟨A, c, rfl, hA1, hA2⟩ := ha.shape
  obtain ⟨B, d, rfl, hB1, hB2⟩ := hb.shape
  have HA := Lib.hid ha
  have HB := Lib.hid hb
  unfold maxLen at hA2 hB2
  clear ha hb
  by_cases hnm : xs.length = ys.length
  · have h1 : ((xs.length : Int) != (ys.length : Int)) = false := by simp [hnm]
    have HH := Lib.hid hnm
    clear hnm
    go_enter Tryz.func12, Tryz.ntmps12
    go_wp2_with fail
    go_loopw [5] (fun i wr => ∃ k q : Nat, k ≤ xs.length ∧ i = .int .i64 k ∧ wr = w.drewN q ∧ xs.take k = ys.take k) (fun i _ => xs.length - (intOf i).toNat)
    case atStart => exact ⟨0, 0, Nat.zero_le _, rfl, rfl, rfl⟩
    case round =>
      obtain ⟨k, q, hk, rfl, rfl, hH'⟩ := hrel
      have hH := Lib.hid hH'
      clear hH'
      by_cases hlt : k < xs.length
      · have hmk : k < ys.length := by rw [← HH.out]; exact hlt
        obtain ⟨b, o, rfl, _, _, hxx⟩ := HA.out.cell_ hlt
        obtain ⟨b', o', rfl, _, _, hyy⟩ := HB.out.cell_ hmk
        have x1 := hxx 0 _ rfl
        have y1 := hyy 0 _ rfl
        simp only [Nat.add_zero, Nat.mul_one] at x1 y1
        clear hxx hyy
        have hkk : k < 9223372036854775807 := by omega
        by_cases he : xs[k] = ys[k]
        · have hd : (xs[k] != ys[k]) = false := by simp [he]
          have HE := Lib.hid he
          clear he
          go_wp2_with fail
          go_quiet (fail)
          go_wp2_with fail
          go_roundw
          case rel => exact ⟨k + 1, _, by omega, by go_num, rfl, by rw [List.take_succ_eq_append_getElem hlt, List.take_succ_eq_append_getElem hmk, hH.out, HE.out]⟩
          case measure => simp [intOf]; omega
        · have hd : (xs[k] != ys[k]) = true := by simp [he]
          have hf : decide (xs = ys) = false := by
            rw [decide_eq_false_iff_not]; intro h; subst h; exact he rfl
          have HF := Lib.hid hf
          clear he hf
          go_wp2_with fail
          go_quiet (fail)
          go_wp2_with fail
          go_ret
          rw [HF.out]
          exact ⟨rfl, _, World.drewN_drewN _ _ _⟩
      · go_wp2_with fail
        go_ret
        have hkd : k = xs.length := by omega
        have h := hH.out
        rw [List.take_of_length_le (by omega), List.take_of_length_le (by have := HH.out; omega)] at h
        rw [decide_eq_true h]
        exact ⟨rfl, _, rfl⟩
  · have h1 : ((xs.length : Int) != (ys.length : Int)) = true := by simp; omega
    have hf : decide (xs = ys) = false := by
      rw [decide_eq_false_iff_not]; intro h; exact hnm (by rw [h])
    have HF := Lib.hid hf
    clear hf hnm
    go_enter Tryz.func12, Tryz.ntmps12
    go_wp2_with fail
    go_ret
    rw [HF.out]
    exact ⟨rfl, 0, rfl⟩

end Go.Proofs.YthdehdlbocgfaaaGreatDoor
