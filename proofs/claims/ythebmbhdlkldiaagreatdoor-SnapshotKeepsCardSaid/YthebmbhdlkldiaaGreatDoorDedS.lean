/- The document's table: insert, Sessions, Seqs. -/
import Derived.Test.YthebmbhdlkldiaaGreatDoorDedR
namespace Go.Proofs.YthebmbhdlkldiaaGreatDoor.Ded
open Go.RowKit Go.Bl
attribute [local go_sem ↓] Go.wp_at_zero Go.wp_at_succ

theorem intc_one (x : Int) (u : Value) (h : u ∈ intc x) : u.oneCell' = true := by
  simp only [intc, List.mem_cons, List.not_mem_nil, or_false] at h
  rcases h with rfl; rfl
theorem infoInt : (Tryz.prog.info? 3).map (fun i => (i.zero, i.size, i.bytes)) = some (some (.int .i64 0), 1, 8) := by kernel_rfl
theorem elInt : El Tryz.prog 62 3 1 8 intc := ⟨Tryz.underlying62, ⟨_, infoInt, rfl⟩, by decide, by decide, fun _ => rfl, intc_one⟩
theorem sizeInt (w : World) : (sizeOf 3).run Tryz.prog w = .ok 1 w := by kernel_rfl

set_option maxRecDepth 4000 in
set_option maxHeartbeats 2000000 in
theorem insert_any (w : World) (base : Nat) (v : Value) (l : List Int) (h : Own w base 3 1 intc v l) (hr : l.Pairwise (· < ·)) (n : Int) (hlen : l.length ≤ 1000000) (hbase : base ≤ w.heap.size) :
    Calls Tryz.prog 103 #[v, .int .i64 n] w fun e w' => ∃ v' l', e = .returned v' ∧ l'.Pairwise (· < ·) ∧ (∀ y, y ∈ l' ↔ y ∈ l ∨ y = n) ∧ l'.length ≤ l.length + 1 ∧ Own w' base 3 1 intc v' l' ∧ Below w.heap.size w w' := by
  obtain ⟨A, c, rfl, hc1, hc2⟩ := h.shape_ rfl
  unfold maxLen at hc2
  have HS := Lib.hid h
  have HR := Lib.hid hr
  clear h hr
  go_enter Tryz.func103, Tryz.ntmps103
  go_wp2_with fail
  go_loopw [5] (fun i wr => ∃ j : Nat, j ≤ l.length ∧ i = .int .i64 j ∧ w = wr ∧ ∀ y ∈ l.take j, y < n) (fun i _ => l.length - (intOf i).toNat)
  case atStart => exact ⟨0, Nat.zero_le _, rfl, rfl, by simp⟩
  case round =>
    obtain ⟨j, hj, rfl, rfl, hlow⟩ := hrel
    have HLOW := Lib.hid hlow
    clear hlow
    by_cases hlt : j < l.length
    · obtain ⟨b, o, rfl, _, hbl, hxx⟩ := (HS.out.sl elInt.len).cell_ hlt
      have x0 := hxx 0 _ rfl
      simp only [Nat.add_zero, Nat.mul_one] at x0
      clear hxx
      by_cases hln : l[j] < n
      · have d1 : decide (l[j] < n) = true := by simpa using hln
        have HLN := Lib.hid hln
        clear hln
        go_wp2_with fail
        go_roundw
        case rel =>
          refine ⟨j + 1, by omega, by go_num, by trivial, fun y hy => ?_⟩
          rw [List.take_succ_eq_append_getElem hlt] at hy
          rcases List.mem_append.1 hy with hy | hy
          · exact HLOW.out y hy
          · obtain rfl := List.mem_singleton.1 hy; exact HLN.out
        case measure => simp [intOf]; omega
      · have d1 : decide (l[j] < n) = false := by simpa using hln
        by_cases hen : l[j] = n
        · have d2 : (l[j] == n) = true := by simp [hen]
          have HEN := Lib.hid hen
          clear hen hln
          go_wp2_with fail
          go_ret
          exact ⟨_, l, rfl, HR.out, fun y => ⟨.inl, fun h => by rcases h with h | h; exact h; rw [h, ← HEN.out]; exact List.getElem_mem hlt⟩, by omega, HS.out, Below.refl _ _⟩
        · have d2 : (l[j] == n) = false := by simp [hen]
          have hup : ∀ y ∈ l.drop j, n < y := fun y hy => by
            rw [List.drop_eq_getElem_cons hlt] at hy
            have h1 := HR.out
            rw [← List.take_append_drop j l, List.pairwise_append, List.drop_eq_getElem_cons hlt, List.pairwise_cons] at h1
            rcases List.mem_cons.1 hy with rfl | hy
            · omega
            · have := h1.2.1.1 y hy; omega
          have HUP := Lib.hid hup
          clear hup hen hln
          have hj2 : j ≤ l.length := by omega
          have hch : ∀ w : World, (Instr.slice 62 (.slice (some ⟨b,o,none⟩) l.length c) none (some (.int .i64 (j : Int))) none).run Tryz.prog w = .ok (.slice (cutA (some ⟨b,o,none⟩) c 0 1) j c) w := fun w => by
            simpa using run_cut_high (P := Tryz.prog) Tryz.underlying62 sizeInt (some ⟨b,o,none⟩) l.length c (j : Int) (by omega) (by omega) w
          have hcl : ∀ w : World, (Instr.slice 62 (.slice (some ⟨b,o,none⟩) l.length c) (some (.int .i64 (j : Int))) none none).run Tryz.prog w = .ok (.slice (cutA (some ⟨b,o,none⟩) c j 1) (l.length - j) (c - j)) w := fun w => by
            simpa using run_cut_low (P := Tryz.prog) Tryz.underlying62 sizeInt (some ⟨b,o,none⟩) l.length c (j : Int) (by omega) (by omega) w
          have HSl := Lib.hid (HS.out.sl elInt.len)
          have hmem2 : ∀ y, y ∈ l.take j ++ [n] ++ l.drop j ↔ y ∈ l ∨ y = n := fun y => by
            conv => rhs; rw [← List.take_append_drop j l]
            simp only [List.mem_append, List.mem_singleton]
            constructor
            · rintro ((h | h) | h)
              · exact .inl (.inl h)
              · exact .inr h
              · exact .inl (.inr h)
            · rintro ((h | h) | h)
              · exact .inl (.inl h)
              · exact .inr h
              · exact .inl (.inr h)
          have hris2 : (l.take j ++ [n] ++ l.drop j).Pairwise (· < ·) := by
            have h1 := HR.out
            rw [← List.take_append_drop j l, List.pairwise_append] at h1
            rw [List.append_assoc, List.pairwise_append, List.singleton_append, List.pairwise_cons]
            refine ⟨h1.1, ⟨HUP.out, h1.2.1⟩, fun a ha b hb => ?_⟩
            rcases List.mem_cons.1 hb with rfl | hb
            · exact HLOW.out a ha
            · exact h1.2.2 a ha b hb
          have HM2 := Lib.hid hmem2
          have HR2 := Lib.hid hris2
          clear hmem2 hris2
          have tok : True := trivial
          go_wp2_with (first
            | (have hx2 := hown2
               at_builtin
               refine elInt.append _ (by rfl) (.tmp 43) (.tmp 46) (by rfl) w.heap.size _ (l.take j ++ [n]) (by rfl) hx2 _ _ (l.drop j) (by rfl) ((HSl.out.drop_ hj2).fresh hbc) (by simp; omega) hbc.size ?_
               intro v3 w3 hown3 hg3 hat3
               have Hown3 := Lib.hid hown3
               have hbd : Below w.heap.size w w3 := hbc.grown hg3 hbc.size (fun q hq => (hx2.lt q hq).1)
               clear hown3 hown2 hx2)
            | (have hx1 := hown1
               at_builtin
               refine elInt.append _ (by rfl) (.tmp 39) (.tmp 41) (by rfl) w.heap.size _ (l.take j) (by rfl) (hx1.fresh ((Below.refl _ _).alloc (Nat.le_refl _) _)) _ _ [n] (by rfl) (Sl.single (k := 1) (enc := intc) (x := n) (heap_alloc_new _ _) rfl) (by simp; omega) (by have := hba.size; simp; omega) ?_
               intro v2 w2 hown2 hg2 hat2
               have hbc : Below w.heap.size w w2 := (hba.alloc hba.size _).grown hg2 (Nat.le_trans hba.size (by simp)) (fun q hq => (hx1.lt q hq).1)
               clear hown1 hx1)
            | (have t := tok
               at_builtin
               refine elInt.append _ (by rfl) (.tmp 34) (.tmp 37) (by rfl) w.heap.size (.slice (some ⟨w.heap.size, 0, none⟩) 0 0) [] (by rfl) (Own.made w (Nat.le_refl _) _ _ _) _ _ (l.take j) (by rfl) ((HSl.out.take_ hj2).fresh ((Below.refl _ _).alloc (Nat.le_refl _) _)) (by simp; omega) (by simp) ?_
               intro v1 w1 hown1 hg1 hat1
               rw [List.nil_append] at hown1
               have hba : Below w.heap.size w w1 := ((Below.refl _ w).alloc (Nat.le_refl _) _).grown hg1 (by simp) (fun q hq => by simp [Value.ownBlock] at hq; omega)
               clear tok t))
          go_ret
          exact ⟨_, _, rfl, HR2.out, HM2.out, by simp; omega, Hown3.out.lower hbase, hbd⟩
    · have HUP : Hid (∀ y ∈ l.drop j, n < y) := Lib.hid (fun y hy => by
        rw [List.drop_of_length_le (by omega)] at hy
        cases hy)
      have dlt : decide (j < l.length) = false := by simpa using hlt
      have hj2 : j ≤ l.length := by omega
      have hch : ∀ w : World, (Instr.slice 62 (.slice A l.length c) none (some (.int .i64 (j : Int))) none).run Tryz.prog w = .ok (.slice (cutA A c 0 1) j c) w := fun w => by
        simpa using run_cut_high (P := Tryz.prog) Tryz.underlying62 sizeInt A l.length c (j : Int) (by omega) (by omega) w
      have hcl : ∀ w : World, (Instr.slice 62 (.slice A l.length c) (some (.int .i64 (j : Int))) none none).run Tryz.prog w = .ok (.slice (cutA A c j 1) (l.length - j) (c - j)) w := fun w => by
        simpa using run_cut_low (P := Tryz.prog) Tryz.underlying62 sizeInt A l.length c (j : Int) (by omega) (by omega) w
      have HSl := Lib.hid (HS.out.sl elInt.len)
      have hmem2 : ∀ y, y ∈ l.take j ++ [n] ++ l.drop j ↔ y ∈ l ∨ y = n := fun y => by
        conv => rhs; rw [← List.take_append_drop j l]
        simp only [List.mem_append, List.mem_singleton]
        constructor
        · rintro ((h | h) | h)
          · exact .inl (.inl h)
          · exact .inr h
          · exact .inl (.inr h)
        · rintro ((h | h) | h)
          · exact .inl (.inl h)
          · exact .inr h
          · exact .inl (.inr h)
      have hris2 : (l.take j ++ [n] ++ l.drop j).Pairwise (· < ·) := by
        have h1 := HR.out
        rw [← List.take_append_drop j l, List.pairwise_append] at h1
        rw [List.append_assoc, List.pairwise_append, List.singleton_append, List.pairwise_cons]
        refine ⟨h1.1, ⟨HUP.out, h1.2.1⟩, fun a ha b hb => ?_⟩
        rcases List.mem_cons.1 hb with rfl | hb
        · exact HLOW.out a ha
        · exact h1.2.2 a ha b hb
      have HM2 := Lib.hid hmem2
      have HR2 := Lib.hid hris2
      clear hmem2 hris2
      have tok : True := trivial
      go_wp2_with (first
        | (have hx2 := hown2
           at_builtin
           refine elInt.append _ (by rfl) (.tmp 43) (.tmp 46) (by rfl) w.heap.size _ (l.take j ++ [n]) (by rfl) hx2 _ _ (l.drop j) (by rfl) ((HSl.out.drop_ hj2).fresh hbc) (by simp; omega) hbc.size ?_
           intro v3 w3 hown3 hg3 hat3
           have Hown3 := Lib.hid hown3
           have hbd : Below w.heap.size w w3 := hbc.grown hg3 hbc.size (fun q hq => (hx2.lt q hq).1)
           clear hown3 hown2 hx2)
        | (have hx1 := hown1
           at_builtin
           refine elInt.append _ (by rfl) (.tmp 39) (.tmp 41) (by rfl) w.heap.size _ (l.take j) (by rfl) (hx1.fresh ((Below.refl _ _).alloc (Nat.le_refl _) _)) _ _ [n] (by rfl) (Sl.single (k := 1) (enc := intc) (x := n) (heap_alloc_new _ _) rfl) (by simp; omega) (by have := hba.size; simp; omega) ?_
           intro v2 w2 hown2 hg2 hat2
           have hbc : Below w.heap.size w w2 := (hba.alloc hba.size _).grown hg2 (Nat.le_trans hba.size (by simp)) (fun q hq => (hx1.lt q hq).1)
           clear hown1 hx1)
        | (have t := tok
           at_builtin
           refine elInt.append _ (by rfl) (.tmp 34) (.tmp 37) (by rfl) w.heap.size (.slice (some ⟨w.heap.size, 0, none⟩) 0 0) [] (by rfl) (Own.made w (Nat.le_refl _) _ _ _) _ _ (l.take j) (by rfl) ((HSl.out.take_ hj2).fresh ((Below.refl _ _).alloc (Nat.le_refl _) _)) (by simp; omega) (by simp) ?_
           intro v1 w1 hown1 hg1 hat1
           rw [List.nil_append] at hown1
           have hba : Below w.heap.size w w1 := ((Below.refl _ w).alloc (Nat.le_refl _) _).grown hg1 (by simp) (fun q hq => by simp [Value.ownBlock] at hq; omega)
           clear tok t))
      go_ret
      exact ⟨_, _, rfl, HR2.out, HM2.out, by simp; omega, Hown3.out.lower hbase, hbd⟩
end Go.Proofs.YthebmbhdlkldiaaGreatDoor.Ded
