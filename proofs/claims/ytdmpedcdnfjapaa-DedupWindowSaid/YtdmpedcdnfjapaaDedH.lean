/- DedupWindow: what the statement's function does: it answers true. -/
import Derived.Test.YtdmpedcdnfjapaaDedE
namespace Go.Proofs.Ytdmpedcdnfjapaa
open Go.RowKit Go.Bl
attribute [local go_sem ↓] Go.wp_at_zero Go.wp_at_succ

/-- The numbers 1 to n, put in turn. -/
def winL : Nat → List En
  | 0 => []
  | n + 1 => winL n ++ [⟨3, (n : Int) + 1, ⟨1, (n : Int) + 1, 0, 0⟩⟩]
theorem winL_len : ∀ n, (winL n).length = n
  | 0 => rfl
  | n + 1 => by rw [winL, List.length_append, winL_len n]; rfl
theorem winL_high : ∀ n, highL (winL n) 3 = n
  | 0 => rfl
  | n + 1 => by rw [winL, highL_append, winL_high n, if_pos rfl]; show max (n : Int) ((n : Int) + 1) = _; omega
theorem winL_find (y : Int) : ∀ n : Nat, findL (winL n) 3 y = if 1 ≤ y ∧ y ≤ (n : Int) then some ⟨1, y, 0, 0⟩ else none
  | 0 => by rw [if_neg (by omega)]; rfl
  | n + 1 => by
    rw [winL, findL_append, winL_find y n]
    by_cases h1 : 1 ≤ y ∧ y ≤ (n : Int)
    · simp only [if_pos h1, Option.some_or]
      rw [if_pos (by omega)]
    · rw [if_neg h1, Option.none_or]
      by_cases h2 : (n : Int) + 1 = y
      · rw [if_pos ⟨rfl, h2⟩, if_pos (by omega)]
        show some (⟨1, (n : Int) + 1, 0, 0⟩ : Oc) = _
        rw [h2]
      · rw [if_neg (fun h => h2 h.2), if_neg (by omega)]
theorem winL_look (n : Nat) (y : Int) : lookL (winL n) 3 y = if y < 1 ∨ y ≤ (n : Int) - 8 then (oc0, 2) else if y ≤ (n : Int) then (⟨1, y, 0, 0⟩, 1) else (oc0, 0) := by
  by_cases h1 : y < 1 ∨ y ≤ (n : Int) - 8
  · rw [if_pos h1, lookL_old (by rw [winL_high]; exact h1)]
  · rw [if_neg h1]
    by_cases h2 : y ≤ (n : Int)
    · rw [if_pos h2, lookL_known (by rw [winL_high]; exact h1) (by rw [winL_find, if_pos (by omega)])]
    · rw [if_neg h2, lookL_fresh (by rw [winL_high]; exact h1) (by rw [winL_find, if_neg (by omega)])]
theorem winL_put (n : Nat) : putL (winL n) 3 ((n : Int) + 1) ⟨1, (n : Int) + 1, 0, 0⟩ = (winL (n + 1), 0) := by
  have hl : lookL (winL n) 3 ((n : Int) + 1) = (oc0, 0) := by rw [winL_look, if_neg (by omega), if_neg (by omega)]
  unfold putL
  rw [if_neg (by omega), hl]
  rfl
theorem window_len (n : Nat) (ks : List Int) (hr : ks.Pairwise (· < ·)) (hm : ∀ y, y ∈ ks ↔ (lookL (winL n) 3 y).2 = 1) : ((ks.length : Int) == gmin n 8) = true := by
  have h1 : ks.Perm ((List.range (min n 8)).map fun (j : Nat) => ((n : Int) - (min n 8 : Nat) + 1 + j)) := by
    refine (List.perm_ext_iff_of_nodup (hr.imp fun {a b} h e => by omega) (List.pairwise_map.2 (List.nodup_range.imp fun {a b} h e => h (by omega)))).2 fun y => ?_
    rw [hm, winL_look, List.mem_map]
    constructor
    · intro h
      split at h
      · simp at h
      · split at h
        · exact ⟨(y - ((n : Int) - (min n 8 : Nat) + 1)).toNat, List.mem_range.2 (by omega), by omega⟩
        · simp at h
    · rintro ⟨j, hj, rfl⟩
      have := List.mem_range.1 hj
      rw [if_neg (by omega), if_pos (by omega)]
  have h2 := h1.length_eq
  rw [List.length_map, List.length_range] at h2
  rw [beq_iff_eq, gmin_def, h2]
  omega

theorem eqlOc (a b c d : Int) (w : World) : (binOp .eql 27 (.agg #[.int .i64 a, .int .i64 b, .int .i64 c, .int .i64 d]) (.agg #[.int .i64 a, .int .i64 b, .int .i64 c, .int .i64 d])).run Try.prog w = .ok (.bool true) w := by
  have u4 := Try.underlying3
  have a4 := Try.isAgg3
  have z4 := Try.sizeOf3
  have hS : Try.prog.underlying 27 = some (.struct (Try.prog.fieldsOf 27)) := by kernel_rfl
  have hp : Try.prog.stoodInHeld 27 = false := by kernel_rfl
  rw [run_eql_struct, show (10000 : Nat) = 9999 + 1 from rfl, run_equalIn_agg w 9999 27 _ _ hS hp]
  simp only [Program.fieldsOf, Try.underlying27]
  go_simp

set_option maxRecDepth 4000 in
set_option maxHeartbeats 2000000 in
theorem window_any (w : World) (n s : Int) (hn : i64 n) (hs : i64 s) :
    Calls Try.prog 4 #[.int .i64 n, .int .i64 s] w fun e w' => e = .returned (.bool true) ∧ Below w.heap.size w w' := by
  have hmn := @run_gmin Try.prog
  have heq := eqlOc
  go_enter Try.func4, Try.ntmps4
  go_wp2_with fail
  refine (shown_any w).mono ?_
  rintro e w0 ⟨rfl, hB0⟩
  have HB0 := Lib.hid hB0
  clear hB0
  go_wp2_with fail
  refine (newT w0 (fun k => k < w.heap.size) (fun k hk => Nat.lt_of_lt_of_le hk HB0.out.size)).mono ?_
  rintro e w1 ⟨p, rfl, hN1, hB1⟩
  have HN1 := Lib.hid hN1
  have HB1 := Lib.hid (HB0.out.trans (hB1.mono HB0.out.size))
  clear hN1 hB1 HB0
  by_cases h0 : n < 0
  · have d0 : decide (n < 0) = true := by simpa using h0
    go_wp2_with fail
    go_ret
    exact ⟨rfl, HB1.out⟩
  · have d0 : decide (n < 0) = false := by simpa using h0
    by_cases h200 : 200 < n
    · have d2 : decide (200 < n) = true := by simpa using h200
      go_wp2_with fail
      go_ret
      exact ⟨rfl, HB1.out⟩
    · have d2 : decide (200 < n) = false := by simpa using h200
      obtain ⟨N, rfl, hN⟩ : ∃ N : Nat, n = (N : Int) ∧ N ≤ 200 := ⟨n.toNat, by omega, by omega⟩
      have hw : IntKind.i64.wrap ((N : Int) - 8) = (N : Int) - 8 := IntWalk.i64_in _ (by omega)
      go_wp2_with fail
      go_loopw [7] (fun i wr => ∃ k : Nat, k ≤ N ∧ i = .int .i64 ((k : Int) + 1) ∧ Tab (fun q => q < w.heap.size) wr p (winL k) ∧ Below w.heap.size w wr) (fun i _ => N + 1 - (Go.RowKit.intOf i).toNat)
      case atStart => exact ⟨0, Nat.zero_le _, rfl, HN1.out, HB1.out⟩
      case round =>
        obtain ⟨k, hk, rfl, hT, hB⟩ := hrel
        have HT := Lib.hid hT
        have HB := Lib.hid hB
        clear hT hB
        by_cases hlt : k < N
        · have hle : decide ((k : Int) + 1 ≤ (N : Int)) = true := by simp; omega
          have hput := putT wr _ (fun q hq => Nat.lt_of_lt_of_le hq HB.out.size) p _ HT.out 3 ((k : Int) + 1) (by unfold i64; omega) (by unfold i64; omega) ⟨1, (k : Int) + 1, 0, 0⟩ (by rw [winL_len]; omega)
          rw [winL_put] at hput
          have HP := Lib.hid hput
          clear hput
          go_wp2_with fail
          refine HP.out.mono ?_
          rintro e w2 ⟨rfl, hT2, hK2⟩
          have HT2 := Lib.hid hT2
          have HB2 := Lib.hid (HB.out.trans (below_not hK2 HB.out.size (fun _ h => h)))
          clear hT2 hK2
          go_wp2_with fail
          go_roundw
          case rel => exact ⟨k + 1, hlt, by go_num, HT2.out, HB2.out⟩
          case measure => simp [Go.RowKit.intOf]; omega
        · have hkn : k = N := by omega
          subst hkn
          have hle : decide ((k : Int) + 1 ≤ (k : Int)) = false := by simp; omega
          have hlk := lookT wr _ p _ HT.out 3 s (by unfold i64; omega) hs
          by_cases hs1 : s < 1
          ·
            rw [show lookL (winL k) 3 s = (oc0, 2) by rw [winL_look]; first | rw [if_pos (by omega)] | rw [if_neg (by omega), if_neg (by omega)]] at hlk
            unfold oc0 at hlk
            have HLK := Lib.hid hlk
            clear hlk
            go_wp2_with fail
            refine HLK.out.mono ?_
            rintro e w2 ⟨rfl, hT2, hB2⟩
            have HB2 := Lib.hid (HB.out.trans (hB2.mono HB.out.size))
            clear hT2 hB2
            go_wp2_with fail
            go_ret
            exact ⟨rfl, HB2.out.alloc HB2.out.size _⟩
          · by_cases hs2 : s ≤ (k : Int) - 8
            ·
              rw [show lookL (winL k) 3 s = (oc0, 2) by rw [winL_look]; first | rw [if_pos (by omega)] | rw [if_neg (by omega), if_neg (by omega)]] at hlk
              unfold oc0 at hlk
              have HLK := Lib.hid hlk
              clear hlk
              go_wp2_with fail
              refine HLK.out.mono ?_
              rintro e w2 ⟨rfl, hT2, hB2⟩
              have HB2 := Lib.hid (HB.out.trans (hB2.mono HB.out.size))
              clear hT2 hB2
              go_wp2_with fail
              go_ret
              exact ⟨rfl, HB2.out.alloc HB2.out.size _⟩
            · by_cases hs3 : s ≤ (k : Int)
              · rw [show lookL (winL k) 3 s = (⟨1, s, 0, 0⟩, 1) by rw [winL_look, if_neg (by omega), if_pos hs3]] at hlk
                have HLK := Lib.hid hlk
                clear hlk
                go_wp2_with fail
                refine HLK.out.mono ?_
                rintro e w2 ⟨rfl, hT2, hB2⟩
                have HT2 := Lib.hid hT2
                have HB2 := Lib.hid (HB.out.trans (hB2.mono HB.out.size))
                clear hT2 hB2
                go_wp2_with fail
                refine (seqsT _ _ p _ (HT2.out.fresh ((Below.refl _ _).alloc (Nat.le_refl _) _)) (by rw [winL_len]; omega) 3 (by unfold i64; omega)).mono ?_
                rintro e w3 ⟨v, ks, rfl, hri, hmem, hlen, hS, hT3, hB3⟩
                obtain ⟨a, c, rfl, hc1, hc2⟩ := hS.shape
                unfold maxLen at hc2
                have hwl := window_len k ks hri hmem
                have HB3 := Lib.hid ((HB2.out.alloc HB2.out.size _).trans (hB3.mono (by have := HB2.out.size; simp; omega)))
                clear hri hmem hS hT3 hB3
                go_wp2_with fail
                go_ret
                exact ⟨rfl, HB3.out⟩
              ·
                rw [show lookL (winL k) 3 s = (oc0, 0) by rw [winL_look]; first | rw [if_pos (by omega)] | rw [if_neg (by omega), if_neg (by omega)]] at hlk
                unfold oc0 at hlk
                have HLK := Lib.hid hlk
                clear hlk
                go_wp2_with fail
                refine HLK.out.mono ?_
                rintro e w2 ⟨rfl, hT2, hB2⟩
                have HB2 := Lib.hid (HB.out.trans (hB2.mono HB.out.size))
                clear hT2 hB2
                go_wp2_with fail
                go_ret
                exact ⟨rfl, HB2.out.alloc HB2.out.size _⟩
end Go.Proofs.Ytdmpedcdnfjapaa
