/- The document's numbers as bytes (bucketlineref2): Put, Take, Fixed, TakeFixed. Under the stated premises on sizes. -/
import Derived.Test.YtimfoijajafdpaaDoorNumB
namespace Go.Proofs.YtimfoijajafdpaaDoor
open Go.RowKit Go.Bl
attribute [local go_sem ↓] Go.wp_at_zero Go.wp_at_succ

set_option maxRecDepth 8000 in
set_option maxHeartbeats 2000000 in
theorem rput_any (w : World) (n : Int) (N : Nat) (hN : gmax 0 (gmin n 1099511627776) = (N : Int)) : Calls Tryd.prog 35 #[.int .i64 n] w fun e w' => e = .returned (.string (putB N)) ∧ Below w.heap.size w w' := by
  have hNb : N ≤ 1099511627776 := by unfold gmax gmin at hN; omega
  have hmx := @run_gmax Tryd.prog
  have hmn := @run_gmin Tryd.prog
  have HP := Lib.hid (putL_len 5 N (by omega))
  go_enter Tryd.func35, Tryd.ntmps35
  go_wp2_with fail
  go_loopw [0, 3] (fun n v wr => ∃ (k : Nat) (done : List Nat), Hid (putL N = done ++ putL k) ∧ k ≤ 1099511627776 ∧ done.length ≤ 6 ∧ n = .int .i64 k ∧ Go.Bl.Own wr w.heap.size 5 1 u8c v done ∧ Below w.heap.size w wr) (fun n _ _ => (intOf n).toNat)
  case atStart => exact ⟨N, [], Lib.hid rfl, hNb, Nat.zero_le _, rfl, Go.Bl.Own.nil_ _ _ _ _ _, Below.refl _ _⟩
  case round =>
    obtain ⟨k, done, hp, hkb, hdl, rfl, hO, hB⟩ := hrel
    by_cases h128 : k < 128
    · have d1 : decide ((128 : Int) ≤ (k : Int)) = false := by simp; omega
      have hpk : Hid (putL N = done ++ [k]) := Lib.hid (by rw [hp.out, putL_small h128])
      go_wp2_with (at_builtin; refine elU8.append _ (by rfl) _ _ rfl w.heap.size _ _ rfl (hO.fresh ((Below.refl _ _).alloc (Nat.le_refl _) _)) _ _ [k] rfl (Sl.single (heap_alloc_new _ _) rfl) ?_ ?_ ?_; (simp; omega); (have := hB.size; simp; omega); intro v' w4 hown' hgrow hat; have HO := Lib.hid hown'; clear hown'; go_loud (have hstr := Sl.str (HO.out.sl elU8.len) (by simp) (fun x hx => putL_lt (N + 1) N (by omega) x (by rw [hpk.out]; exact hx))))
      go_ret
      rw [← hpk.out] at *
      exact ⟨rfl, (hB.alloc hB.size _).grown hgrow (by have := hB.size; simp; omega) (fun q e => (hO.lt q e).1)⟩
    · have d1 : decide ((128 : Int) ≤ (k : Int)) = true := by simp; omega
      obtain ⟨x, hx⟩ : ∃ x, x = k % 128 + 128 := ⟨_, rfl⟩
      have hxx : (k : Int) % 128 + 128 = (x : Int) := by omega
      have hx2 : x < 256 := by omega
      have HX := Lib.hid hx
      clear hx
      go_wp2_with (at_builtin; refine elU8.append _ (by rfl) _ _ rfl w.heap.size _ _ rfl (hO.fresh ((Below.refl _ _).alloc (Nat.le_refl _) _)) _ _ [x] rfl (Sl.single (heap_alloc_new _ _) rfl) ?_ ?_ ?_; (simp; omega); (have := hB.size; simp; omega); intro v' w4 hown' hgrow hat; have HO := Lib.hid hown'; clear hown')
      go_roundw
      case rel => exact ⟨k / 128, done ++ [x], Lib.hid (by rw [hp.out, putL_big h128, HX.out]; simp), by omega, by have := HP.out; rw [hp.out, putL_big h128] at this; simp at this ⊢; omega, rfl, HO.out, (hB.alloc hB.size _).grown hgrow (by have := hB.size; simp; omega) (fun q e => (hO.lt q e).1)⟩
      case measure => simp [intOf]; omega
end Go.Proofs.YtimfoijajafdpaaDoor
