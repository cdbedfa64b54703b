/- The document's Names: what its walk hands back. -/
import Derived.Test.YtlfhokcjbgpjhaaGreatDoorIdxS
import Derived.Test.YtlfhokcjbgpjhaaGreatDoorIdxE
namespace Go.Proofs.YtlfhokcjbgpjhaaGreatDoor.Idx
open Go.RowKit Go.Bl

theorem infoStr : (Tryz.prog.info? 9).map (fun i => (i.zero, i.size, i.bytes)) = some (some (.string ByteArray.empty), 1, 16) := by kernel_rfl
theorem sizeStr (w : World) : (sizeOf 9).run Tryz.prog w = .ok 1 w := by kernel_rfl
theorem strc_one (x : ByteArray) (u : Value) (h : u ∈ strc x) : u.oneCell' = true := by
  simp only [strc, List.mem_cons, List.not_mem_nil, or_false] at h
  subst h; rfl
theorem insName_len (ks : List ByteArray) (s : ByteArray) : (insName ks s).length ≤ ks.length + 1 := by
  unfold insName
  split
  · omega
  · simp only [List.length_append, List.length_take, List.length_drop, List.length_singleton]; omega
theorem namesOf_len (L : List One) : (namesOf L).length ≤ L.length := by
  have : ∀ (L : List One) (ks : List ByteArray), (L.foldl (fun ks o => insName ks o.stream) ks).length ≤ ks.length + L.length := by
    intro L
    induction L with
    | nil => intro ks; simp
    | cons o L ih =>
      intro ks
      have h1 := ih (insName ks o.stream)
      have h2 := insName_len ks o.stream
      simp only [List.foldl_cons, List.length_cons]
      omega
  simpa [namesOf] using this L []

set_option maxRecDepth 8000 in
set_option maxHeartbeats 2000000 in
theorem rnames_any (w : World) (p : Nat) (L : List One) (F : Nat → Prop) (h : RefAt w p L F) (hb : L.length ≤ 1073741824) :
    Calls Tryz.prog 33 #[.pointer (some ⟨p, 0, none⟩)] w fun e w' => ∃ v, e = .returned v ∧ Below w.heap.size w w' ∧ Sl w' (fun b => w.heap.size ≤ b) 1 strc v (namesOf L) := by
  obtain ⟨v, h1, h2, -, -⟩ := h
  obtain ⟨A, c, rfl, hc1, hc2⟩ := h2.shape
  have c0 : w.cell? ⟨p, 0, none⟩ = some (.slice A L.length c) := cell_of_row w p 0 _ _ _ h1
  have hp : p < w.heap.size := (Array.getElem?_eq_some_iff.1 h1).1
  have HS := Lib.hid h2
  unfold maxLen at hc2
  have C0 := Lib.hid c0
  clear h1 h2 c0
  obtain ⟨i0, hi0, hz0, hz1, hz2⟩ := info_parts infoStr
  go_enter Tryz.func33, Tryz.ntmps33
  go_wp2_with fail
  go_loopw [3, 4] (fun v i wr => ∃ k : Nat, k ≤ L.length ∧ i = .int .i64 k ∧ Sl wr (fun b => w.heap.size ≤ b) 1 strc v (namesOf (L.take k)) ∧ Below w.heap.size w wr) (fun _ i _ => L.length - (intOf i).toNat)
  case atStart => exact ⟨0, Nat.zero_le _, rfl, by simpa [namesOf] using Sl.nil_ _ _ _ _, Below.refl _ _⟩
  case round =>
    obtain ⟨k, hk, rfl, hsl, hB⟩ := hrel
    have hsz := hB.size
    have c0 := (hB.cell (p := ⟨p, 0, none⟩) hp).trans C0.out
    have HB := Lib.hid hB
    have hkl := namesOf_len (L.take k)
    rw [List.length_take] at hkl
    clear hB
    by_cases hlt : k < L.length
    · have hns : namesOf (L.take (k + 1)) = insName (namesOf (L.take k)) L[k].stream := by rw [List.take_succ_eq_append_getElem hlt, namesOf_snoc]
      have HNS := Lib.hid hns
      clear hns
      generalize namesOf (L.take k) = ks at hsl hkl HNS
      obtain ⟨A1, c1, rfl, hd1, hd2⟩ := hsl.shape
      unfold maxLen at hd2
      have HSL := Lib.hid hsl
      clear hsl
      obtain ⟨b, o, rfl, _, hbl, hxx⟩ := HS.out.cell_ hlt
      have x0 := (HB.out.cell (p := ⟨b, _, none⟩) hbl).trans (hxx 0 _ rfl)
      simp only [Nat.add_zero] at x0
      clear hxx
      go_wp2_with fail
      go_loopw [5] (fun i ws => ∃ j q : Nat, j ≤ ks.length ∧ i = .int .i64 j ∧ ws = wr.drewN q ∧ ∀ i x, i < j → ks[i]? = some x → bLt x L[k].stream) (fun i _ => ks.length - (intOf i).toNat)
      case atStart => exact ⟨0, 0, Nat.zero_le _, rfl, rfl, fun i x hi => by omega⟩
      case round =>
        obtain ⟨j, q, hj, rfl, rfl, hlow⟩ := hrel
        have HLOW := Lib.hid hlow
        clear hlow
        by_cases hjt : j < ks.length
        · obtain ⟨b1, o1, rfl, _, _, hyy⟩ := HSL.out.cell_ hjt
          have y0 := hyy 0 _ rfl
          simp only [Nat.add_zero, Nat.mul_one] at y0
          clear hyy
          cases hlb : Op.bytesLess ks[j].toList L[k].stream.toList
          · -- the place is found
            have hah : ahead ks L[k].stream = j := ahead_eq hj HLOW.out (fun x hx => by
              rw [List.getElem?_eq_getElem hjt] at hx
              injection hx with hx
              subst hx
              intro h2
              rw [bLt, hlb] at h2
              cases h2)
            have HAH := Lib.hid hah
            clear hah
            have hne1 : ((j : Int) == (ks.length : Int)) = false := by rw [beq_eq_false_iff_ne]; omega
            go_wp2_with fail
            go_quiet (fail)
            go_wp2_with fail
            by_cases he : ks[j] = L[k].stream
            · have hd := eqS_true he
              have HE := Lib.hid he
              clear he
              go_quiet (fail)
              go_wp2_with fail
              go_roundw
              case rel =>
                refine ⟨k + 1, by omega, by go_num, ?_, HB.out.trans ⟨rfl, rfl, rfl, Nat.le_refl _, fun _ _ => rfl⟩⟩
                rw [HNS.out]
                have e1 : insName ks L[k].stream = ks := by unfold insName; rw [HAH.out, List.getElem?_eq_getElem hjt, HE.out, if_pos rfl]
                rw [e1]
                exact HSL.out
              case measure => simp [intOf]; omega
            · have hd := eqS_false he
              have HNE : Hid (¬ ks[j]? = some L[k].stream) := Lib.hid (fun h => he (by rw [List.getElem?_eq_getElem hjt] at h; injection h))
              clear he
              go_quiet (fail)
              have hins : insName ks L[k].stream = ks.take j ++ [L[k].stream] ++ ks.drop j := by
                unfold insName
                rw [HAH.out, if_neg HNE.out]
              have HINS := Lib.hid hins
              clear hins
              have hch : ∀ w : World, (Instr.slice 77 (.slice (some ⟨b1, o1, none⟩) ks.length c1) none (some (.int .i64 (j : Int))) none).run Tryz.prog w = .ok (.slice (cutA (some ⟨b1, o1, none⟩) c1 0 1) j c1) w := fun w => by
                simpa using run_cut_high (P := Tryz.prog) Tryz.underlying77 sizeStr (some ⟨b1, o1, none⟩) ks.length c1 (j : Int) (by omega) (by omega) w
              have hcl : ∀ w : World, (Instr.slice 77 (.slice (some ⟨b1, o1, none⟩) ks.length c1) (some (.int .i64 (j : Int))) none none).run Tryz.prog w = .ok (.slice (cutA (some ⟨b1, o1, none⟩) c1 j 1) (ks.length - j) (c1 - j)) w := fun w => by
                simpa using run_cut_low (P := Tryz.prog) Tryz.underlying77 sizeStr (some ⟨b1, o1, none⟩) ks.length c1 (j : Int) (by omega) (by omega) w
              have tok : True := trivial
              go_wp2_with (first
                | (have hx2 := hown2
                   at_builtin
                   refine wpList_append_sl _ (by rfl) (.tmp 72) (.tmp 75) 77 (by rfl) w.heap.size 9 i0 _ 1 16 Tryz.underlying77 hi0 hz0 hz1 hz2 rfl (by decide) _ _ _ (by rfl) hx2 _ strc (fun _ => rfl) strc_one _ (ks.drop j) (by rfl) ((HSL.out.drop_ hj).fresh hbc) (by simp only [List.length_take, List.length_drop, List.length_singleton]; unfold maxLen; omega) (by simp only [List.length_take, List.length_drop, List.length_singleton]; omega) (Nat.le_trans hsz hbc.size) ?_
                   intro v3 w3 hown3 hg3 hat3
                   have Hown3 := Lib.hid hown3
                   have hlo2 := Lib.hid (fun q hq => (hx2.lt q hq).1)
                   clear hown3 hown2 hx2)
                | (have hx1 := hown1
                   at_builtin
                   refine wpList_append_sl _ (by rfl) (.tmp 61) (.tmp 70) 77 (by rfl) w.heap.size 9 i0 _ 1 16 Tryz.underlying77 hi0 hz0 hz1 hz2 rfl (by decide) _ _ _ (by rfl) (hx1.alloc _) _ strc (fun _ => rfl) strc_one _ [L[k].stream] (by rfl) (Sl.of_block (fun _ => rfl) (heap_alloc_new _ _) rfl rfl (by show 1 ≤ maxLen; unfold maxLen; omega)) (by simp only [List.length_take, List.length_singleton]; unfold maxLen; omega) (by simp only [List.length_take, List.length_singleton]; omega) (Nat.le_trans hsz (Nat.le_trans hba.size (by simp))) ?_
                   intro v2 w2 hown2 hg2 hat2
                   have hbc : Below wr.heap.size wr w2 := (hba.alloc hba.size _).grown hg2 (Nat.le_trans hba.size (by simp)) (fun q hq => hlow1.out q hq)
                   clear hown1 hx1)
                | (have t := tok
                   at_builtin
                   refine wpList_append_sl _ ?gn1 (.tmp 56) (.tmp 59) 77 ?gn2 w.heap.size 9 i0 _ 1 16 Tryz.underlying77 hi0 hz0 hz1 hz2 rfl (by decide) ?v 0 [] ?g3 ?g4 (fun b => w.heap.size ≤ b) strc (fun _ => rfl) strc_one ?vx (ks.take j) ?g5 ?g6 ?g7 ?g8 ?g9 ?h
                   case v => exact .slice (some ⟨wr.heap.size, 0, none⟩) 0 0
                   case vx => exact .slice (cutA (some ⟨b1, o1, none⟩) c1 0 1) j c1
                   case gn1 => rfl
                   case gn2 => rfl
                   case g3 => rfl
                   case g5 => rfl
                   case g4 => exact World.ownsRow_made (wr.drewN _) #[] 0 hsz (Nat.zero_le _) rfl
                   case g6 => exact ((HSL.out.drewN _).take_ hj).fresh ((Below.refl (wr.drewN _).heap.size (wr.drewN _)).alloc (Nat.le_refl _) _)
                   case g7 => simp only [List.length_take]; unfold maxLen; omega
                   case g8 => simp only [List.length_take]; omega
                   case g9 => simp; omega
                   intro v1 w1 hown1 hg1 hat1
                   have hba : Below wr.heap.size wr w1 := ((show Below wr.heap.size wr (wr.drewN _) from ⟨rfl, rfl, rfl, Nat.le_refl _, fun _ _ => rfl⟩).alloc (Nat.le_refl _) _).grown hg1 (by simp) (fun q hq => by simp [Value.ownBlock] at hq; omega)
                   have hlow1 : Hid (∀ q, v1.ownBlock = some q → wr.heap.size ≤ q) := Lib.hid (fun q hq => by rcases hat1 with e | e <;> rw [e] at hq <;> simp [Value.ownBlock] at hq <;> omega)
                   have c01 := (hba.cell (p := ⟨p, 0, none⟩) (Nat.lt_of_lt_of_le hp hsz)).trans c0
                   have x01 := (hba.cell (p := ⟨b, o + k * 4, none⟩) (Nat.lt_of_lt_of_le hbl hsz)).trans x0
                   clear tok t))
              go_roundw
              case rel =>
                have hrow3 := Hown3.out
                have hB3 : Below w.heap.size w w3 := (HB.out.trans (hbc.mono hsz)).grown hg3 (Nat.le_trans hsz hbc.size) (fun q hq => hlo2.out q hq)
                refine ⟨k + 1, by omega, by go_num, ?_, hB3⟩
                rw [HNS.out, HINS.out]
                have e1 : (0 + (ks.take j).length + [L[k].stream].length + (ks.drop j).length) = (ks.take j ++ [L[k].stream] ++ ks.drop j).length := by simp only [List.length_append]; omega
                rw [e1, List.nil_append, ← List.flatMap_append, ← List.flatMap_append] at hrow3
                exact (Sl.of_own (enc := strc) (fun _ => rfl) hrow3).mono fun q hq hv => (hrow3.lt q hv).1
              case measure => simp [intOf]; omega
          · go_wp2_with fail
            go_quiet (fail)
            go_wp2_with fail
            go_roundw
            case rel =>
              refine ⟨j + 1, _, by omega, by go_num, rfl, fun i x hi hx => ?_⟩
              by_cases hij : i = j
              · subst hij
                rw [List.getElem?_eq_getElem hjt] at hx
                injection hx with hx
                subst hx
                exact hlb
              · exact HLOW.out i x (by omega) hx
            case measure => simp [intOf]; omega
        · have hjl : j = ks.length := by omega
          have hah : ahead ks L[k].stream = j := ahead_eq hj HLOW.out (fun x hx => by rw [List.getElem?_eq_none (by omega)] at hx; cases hx)
          have HAH := Lib.hid hah
          have HNE : Hid (¬ ks[j]? = some L[k].stream) := Lib.hid (fun h => by rw [List.getElem?_eq_none (by omega)] at h; cases h)
          clear hah
          have hne1 : ((j : Int) == (ks.length : Int)) = true := by rw [beq_iff_eq]; omega
          have hd0 : decide (j < ks.length) = false := by simp; omega
          have HJL := Lib.hid hjl
          clear hjl
          go_wp2_with fail
          go_quiet (fail)
          go_wp2_with fail
          go_quiet (fail)
          have hins : insName ks L[k].stream = ks.take j ++ [L[k].stream] ++ ks.drop j := by
            unfold insName
            rw [HAH.out, if_neg HNE.out]
          have HINS := Lib.hid hins
          clear hins
          have hch : ∀ w : World, (Instr.slice 77 (.slice A1 ks.length c1) none (some (.int .i64 (j : Int))) none).run Tryz.prog w = .ok (.slice (cutA A1 c1 0 1) j c1) w := fun w => by
            simpa using run_cut_high (P := Tryz.prog) Tryz.underlying77 sizeStr A1 ks.length c1 (j : Int) (by omega) (by omega) w
          have hcl : ∀ w : World, (Instr.slice 77 (.slice A1 ks.length c1) (some (.int .i64 (j : Int))) none none).run Tryz.prog w = .ok (.slice (cutA A1 c1 j 1) (ks.length - j) (c1 - j)) w := fun w => by
            simpa using run_cut_low (P := Tryz.prog) Tryz.underlying77 sizeStr A1 ks.length c1 (j : Int) (by omega) (by omega) w
          have tok : True := trivial
          go_wp2_with (first
            | (have hx2 := hown2
               at_builtin
               refine wpList_append_sl _ (by rfl) (.tmp 72) (.tmp 75) 77 (by rfl) w.heap.size 9 i0 _ 1 16 Tryz.underlying77 hi0 hz0 hz1 hz2 rfl (by decide) _ _ _ (by rfl) hx2 _ strc (fun _ => rfl) strc_one _ (ks.drop j) (by rfl) ((HSL.out.drop_ hj).fresh hbc) (by simp only [List.length_take, List.length_drop, List.length_singleton]; unfold maxLen; omega) (by simp only [List.length_take, List.length_drop, List.length_singleton]; omega) (Nat.le_trans hsz hbc.size) ?_
               intro v3 w3 hown3 hg3 hat3
               have Hown3 := Lib.hid hown3
               have hlo2 := Lib.hid (fun q hq => (hx2.lt q hq).1)
               clear hown3 hown2 hx2)
            | (have hx1 := hown1
               at_builtin
               refine wpList_append_sl _ (by rfl) (.tmp 61) (.tmp 70) 77 (by rfl) w.heap.size 9 i0 _ 1 16 Tryz.underlying77 hi0 hz0 hz1 hz2 rfl (by decide) _ _ _ (by rfl) (hx1.alloc _) _ strc (fun _ => rfl) strc_one _ [L[k].stream] (by rfl) (Sl.of_block (fun _ => rfl) (heap_alloc_new _ _) rfl rfl (by show 1 ≤ maxLen; unfold maxLen; omega)) (by simp only [List.length_take, List.length_singleton]; unfold maxLen; omega) (by simp only [List.length_take, List.length_singleton]; omega) (Nat.le_trans hsz (Nat.le_trans hba.size (by simp))) ?_
               intro v2 w2 hown2 hg2 hat2
               have hbc : Below wr.heap.size wr w2 := (hba.alloc hba.size _).grown hg2 (Nat.le_trans hba.size (by simp)) (fun q hq => hlow1.out q hq)
               clear hown1 hx1)
            | (have t := tok
               at_builtin
               refine wpList_append_sl _ ?gn1 (.tmp 56) (.tmp 59) 77 ?gn2 w.heap.size 9 i0 _ 1 16 Tryz.underlying77 hi0 hz0 hz1 hz2 rfl (by decide) ?v 0 [] ?g3 ?g4 (fun b => w.heap.size ≤ b) strc (fun _ => rfl) strc_one ?vx (ks.take j) ?g5 ?g6 ?g7 ?g8 ?g9 ?h
               case v => exact .slice (some ⟨wr.heap.size, 0, none⟩) 0 0
               case vx => exact .slice (cutA A1 c1 0 1) j c1
               case gn1 => rfl
               case gn2 => rfl
               case g3 => rfl
               case g5 => rfl
               case g4 => exact World.ownsRow_made (wr.drewN _) #[] 0 hsz (Nat.zero_le _) rfl
               case g6 => exact ((HSL.out.drewN _).take_ hj).fresh ((Below.refl (wr.drewN _).heap.size (wr.drewN _)).alloc (Nat.le_refl _) _)
               case g7 => simp only [List.length_take]; unfold maxLen; omega
               case g8 => simp only [List.length_take]; omega
               case g9 => simp; omega
               intro v1 w1 hown1 hg1 hat1
               have hba : Below wr.heap.size wr w1 := ((show Below wr.heap.size wr (wr.drewN _) from ⟨rfl, rfl, rfl, Nat.le_refl _, fun _ _ => rfl⟩).alloc (Nat.le_refl _) _).grown hg1 (by simp) (fun q hq => by simp [Value.ownBlock] at hq; omega)
               have hlow1 : Hid (∀ q, v1.ownBlock = some q → wr.heap.size ≤ q) := Lib.hid (fun q hq => by rcases hat1 with e | e <;> rw [e] at hq <;> simp [Value.ownBlock] at hq <;> omega)
               have c01 := (hba.cell (p := ⟨p, 0, none⟩) (Nat.lt_of_lt_of_le hp hsz)).trans c0
               have x01 := (hba.cell (p := ⟨b, o + k * 4, none⟩) (Nat.lt_of_lt_of_le hbl hsz)).trans x0
               clear tok t))
          go_roundw
          case rel =>
            have hrow3 := Hown3.out
            have hB3 : Below w.heap.size w w3 := (HB.out.trans (hbc.mono hsz)).grown hg3 (Nat.le_trans hsz hbc.size) (fun q hq => hlo2.out q hq)
            refine ⟨k + 1, by omega, by go_num, ?_, hB3⟩
            rw [HNS.out, HINS.out]
            have e1 : (0 + (ks.take j).length + [L[k].stream].length + (ks.drop j).length) = (ks.take j ++ [L[k].stream] ++ ks.drop j).length := by simp only [List.length_append]; omega
            rw [e1, List.nil_append, ← List.flatMap_append, ← List.flatMap_append] at hrow3
            exact (Sl.of_own (enc := strc) (fun _ => rfl) hrow3).mono fun q hq hv => (hrow3.lt q hv).1
          case measure => simp [intOf]; omega
    · have hkd : k = L.length := by omega
      subst hkd
      go_wp2_with fail
      go_ret
      rw [List.take_length] at hsl
      exact ⟨_, rfl, HB.out, hsl⟩
end Go.Proofs.YtlfhokcjbgpjhaaGreatDoor.Idx
