/- The statements' own helpers: same, small. -/
import Derived.Test.YthdcnknjjbdefaaGreatDoorIdxB
namespace Go.Proofs.YthdcnknjjbdefaaGreatDoor.Idx
open Go.RowKit Go.Bl

theorem bytes_inj (a b : ByteArray) : (a.toList = b.toList) = (a = b) := by
  rw [ByteArray.toList_eq, ByteArray.toList_eq]
  obtain ⟨⟨x⟩⟩ := a
  obtain ⟨⟨y⟩⟩ := b
  simp

/-- Are two events unlike? Under a name that the walk does not open. -/
def evNe (a b c d : ByteArray) : Bool := decide (¬ ((⟨a, b⟩ : Ev) = ⟨c, d⟩))
theorem evNe_false {x y : Ev} (h : x = y) : evNe x.kind x.data y.kind y.data = false := by subst h; simp [evNe]
theorem evNe_true {x y : Ev} (h : ¬ x = y) : evNe x.kind x.data y.kind y.data = true := by unfold evNe; rw [decide_eq_true_eq]; exact h

theorem neqEv (a b c d : ByteArray) (w : World) : (binOp .neq 68 (.agg #[.string a, .string b]) (.agg #[.string c, .string d])).run Tryz.prog w = .ok (.bool (evNe a b c d)) w := by
  have u3 := Tryz.underlying9
  have a3 := Tryz.isAgg9
  have z3 := Tryz.sizeOf9
  have hS : Tryz.prog.underlying 68 = some (.struct (Tryz.prog.fieldsOf 68)) := by kernel_rfl
  have hp : Tryz.prog.stoodInHeld 68 = false := by kernel_rfl
  rw [run_neq_struct, show (10000 : Nat) = 9999 + 1 from rfl, run_equalIn_agg w 9999 68 _ _ hS hp]
  simp only [Program.fieldsOf, Tryz.underlying68]
  go_simp
  by_cases h1 : a = c <;> by_cases h2 : b = d <;> simp [bytes_inj, evNe, h1, h2]

set_option maxHeartbeats 400000 in
theorem same_any (w : World) (G G' : Nat → Prop) (va vb : Value) (xs ys : List Ev) (ha : Sl w G 2 evc va xs) (hb : Sl w G' 2 evc vb ys) :
    Calls Tryz.prog 19 #[va, vb] w fun e w' => e = .returned (.bool (decide (xs = ys))) ∧ ∃ q, w' = w.drewN q := by
  have hne := neqEv
  obtain ⟨A, c, rfl, hA1, hA2⟩ := ha.shape
  obtain ⟨B, d, rfl, hB1, hB2⟩ := hb.shape
  have HA := Lib.hid ha
  have HB := Lib.hid hb
  unfold maxLen at hA2 hB2
  clear ha hb
  by_cases hnm : xs.length = ys.length
  · have h1 : ((xs.length : Int) != (ys.length : Int)) = false := by simp [hnm]
    have HH := Lib.hid hnm
    clear hnm
    go_enter Tryz.func19, Tryz.ntmps19
    go_wp2_with fail
    go_loopw [5] (fun i wr => ∃ k q : Nat, k ≤ xs.length ∧ i = .int .i64 k ∧ wr = w.drewN q ∧ xs.take k = ys.take k) (fun i _ => xs.length - (intOf i).toNat)
    case atStart => exact ⟨0, 0, Nat.zero_le _, rfl, rfl, rfl⟩
    case round =>
      obtain ⟨k, q, hk, rfl, rfl, hH'⟩ := hrel
      have hH := Lib.hid hH'
      clear hH'
      by_cases hlt : k < xs.length
      · have hmk : k < ys.length := by rw [← HH.out]; exact hlt
        obtain ⟨b, o, rfl, _, _, hxx⟩ := HA.out.cell_ hlt
        obtain ⟨b', o', rfl, _, _, hyy⟩ := HB.out.cell_ hmk
        have x1 := hxx 0 _ rfl
        have x2 := hxx 1 _ rfl
        have y1 := hyy 0 _ rfl
        have y2 := hyy 1 _ rfl
        simp only [Nat.add_zero] at x1 y1
        clear hxx hyy
        have hkk : k < 9223372036854775807 := by omega
        by_cases he : xs[k] = ys[k]
        · have hd := evNe_false he
          have HE := Lib.hid he
          clear he
          go_wp2_with fail
          go_quiet (fail)
          go_wp2_with fail
          go_roundw
          case rel => exact ⟨k + 1, _, by omega, by go_num, rfl, by rw [List.take_succ_eq_append_getElem hlt, List.take_succ_eq_append_getElem hmk, hH.out, HE.out]⟩
          case measure => simp [intOf]; omega
        · have hd := evNe_true he
          have hf : decide (xs = ys) = false := by
            rw [decide_eq_false_iff_not]; intro h; subst h; exact he rfl
          have HF := Lib.hid hf
          clear he hf
          go_wp2_with fail
          go_quiet (fail)
          go_wp2_with fail
          go_ret
          rw [HF.out]
          exact ⟨rfl, _, World.drewN_drewN _ _ _⟩
      · go_wp2_with fail
        go_ret
        have hkd : k = xs.length := by omega
        have h := hH.out
        rw [List.take_of_length_le (by omega), List.take_of_length_le (by have := HH.out; omega)] at h
        rw [decide_eq_true h]
        exact ⟨rfl, _, rfl⟩
  · have h1 : ((xs.length : Int) != (ys.length : Int)) = true := by simp; omega
    have hf : decide (xs = ys) = false := by
      rw [decide_eq_false_iff_not]; intro h; exact hnm (by rw [h])
    rw [hf]
    clear hnm hf
    go_enter Tryz.func19, Tryz.ntmps19
    go_wp2_with fail
    go_ret
    exact ⟨rfl, 0, rfl⟩

end Go.Proofs.YthdcnknjjbdefaaGreatDoor.Idx
