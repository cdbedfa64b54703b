/- The document's disk: Rename. Under the stated premises on sizes. -/
import Derived.Test.YtiphnobefigibaaDoorDskW
namespace Go.Proofs.YtiphnobefigibaaDoor
open Go.RowKit Go.Bl
attribute [local go_sem ↓] Go.wp_at_zero Go.wp_at_succ

theorem Srt.ren' {d : Dk} {S S6 : List Fl} (h : Srt d S) {x y : ByteArray} (hx : isF S x = true) (hy : nameB y = true) {f : Fl} (hf : ∀ hk : aheadF S x < S.length, f = S[aheadF S x]) (h6 : Srt ((d.del x).del y) S6) :
    isF S6 y = false ∧ (d.ren x y).1 = 0 ∧ (d.ren x y).2.room = d.room ∧ Srt (d.ren x y).2 (insS S6 { f with name := y }) := by
  have h0 : isF S6 y = false := by
    cases hi : isF S6 y
    · rfl
    · obtain ⟨hk, he⟩ := isF_yes hi
      have := (List.mem_filter.1 (h6.perm.mem_iff.1 (List.getElem_mem hk))).2
      simp only [decide_eq_true_eq] at this
      exact absurd he this
  obtain ⟨h1, h2⟩ := h.ren hx hy hf
  have hr : (d.ren x y).2.room = d.room := by
    unfold Dk.ren
    split
    · rfl
    · split
      · rfl
      · split <;> rfl
  refine ⟨h0, h1, hr, ?_, insS_rise h6.rise h0⟩
  refine (insS_perm _ _).trans (List.Perm.trans ?_ ((insS_perm _ _).symm.trans h2.perm))
  refine List.Perm.append_right _ (h6.perm.trans ?_)
  exact ((h.perm.filter _).filter _).symm

set_option maxRecDepth 8000 in
set_option maxHeartbeats 4000000 in
theorem mrename_any (w : World) (m : Nat) (d : Dk) (F : Nat → Prop) (h : MdD w m d F) (hl : d.L.length ≤ 1000) (x y : ByteArray) (hy1 : y.size ≤ 1000000) :
    Calls Tryd.prog 31 #[.pointer (some ⟨m, 0, none⟩), .string x, .string y] w fun e w' => e = .returned (.int .i64 (d.ren x y).1) ∧ MOut w w' m (d.ren x y).2 F := by
  obtain ⟨S, hS, hs⟩ := h
  have hlen : S.length ≤ 1000 := by rw [hs.perm.length_eq]; exact hl
  have hfind := find_any w m d.room S F hS x (by omega)
  have HS := Lib.hid hS
  have Hs := Lib.hid hs
  cases hx : isF S x
  · have hn := hs.none hx
    rw [hx] at hfind
    have hren : d.ren x y = (6, d) := by unfold Dk.ren; rw [hn]
    rw [hren]
    have HF := Lib.hid hfind
    clear hfind hx hS hs hn hren
    go_enter Tryd.func31, Tryd.ntmps31
    go_wp2_with fail
    refine HF.out.mono ?_
    rintro e w1 ⟨rfl, hB⟩
    go_wp2_with fail
    go_ret
    exact ⟨rfl, MOut.same ⟨S, HS.out, Hs.out⟩ hB⟩
  · obtain ⟨hk, hkn⟩ := isF_yes hx
    have hso := hs.some hx (f := S[aheadF S x]) (fun _ => rfl)
    by_cases hn : nameB y = true
    · have hren : ∀ S6, Srt ((d.del x).del y) S6 → isF S6 y = false ∧ (d.ren x y).1 = 0 ∧ (d.ren x y).2.room = d.room ∧ Srt (d.ren x y).2 (insS S6 ⟨y, S[aheadF S x].bytes, S[aheadF S x].syn⟩) := fun S6 h6 => hs.ren' hx hn (f := S[aheadF S x]) (fun _ => rfl) h6
      have HREN := Lib.hid hren
      rw [hx] at hfind
      clear hren hso hkn hx hS hs
      generalize aheadF S x = k0 at hk hfind HREN ⊢
      have HF := Lib.hid hfind
      have HN : Hid (∀ w1, Calls Tryd.prog 42 #[.string y] w1 fun e w' => e = .returned (.bool (nameB y)) ∧ Below w1.heap.size w1 w') := Lib.hid (fun w1 => rname_any w1 y (by omega))
      rw [hn] at HN
      clear hfind
      go_enter Tryd.func31, Tryd.ntmps31
      go_wp2_with fail
      refine HF.out.mono ?_
      rintro e w1 ⟨rfl, hB⟩
      have HB := Lib.hid hB
      clear hB
      go_wp2_with fail
      refine (HN.out w1).mono ?_
      rintro e w2 ⟨rfl, hB2⟩
      have hB3 := HB.out.trans (hB2.mono HB.out.size)
      obtain ⟨v, h1⟩ := HS.out.fresh hB3
      obtain ⟨g, c, cur, rfl, hc1, hc2, hg⟩ := h1.head (by omega)
      unfold maxLen at hc2
      have c0 := h1.c0
      obtain ⟨b, o, e, _, _, hxx⟩ := (h1.row.sl elFl.len).cell_ hk
      injection e with e
      injection e with e1 e2 _
      subst e1 e2
      have x0 := hxx 0 _ rfl
      have x1 := hxx 1 _ rfl
      have x2 := hxx 2 _ rfl
      simp only [Nat.zero_add, Nat.add_zero] at x0 x1 x2
      have HB3 := Lib.hid hB3
      have H1 : Hid (MdD w2 m d F) := Lib.hid ⟨S, ⟨_, h1⟩, Hs.out⟩
      clear hB2 hB3 h1 hxx hg HB
      go_wp2_with fail
      obtain ⟨B, hB⟩ : ∃ B, S[k0].bytes = B := ⟨_, rfl⟩
      obtain ⟨N, hN⟩ : ∃ N, S[k0].syn = N := ⟨_, rfl⟩
      obtain ⟨Y, hY⟩ : ∃ Y, S[k0].name = Y := ⟨_, rfl⟩
      rw [hB, hN] at HREN
      rw [hB, hN, hY]
      have hblk := heap_alloc_new w2 (.cells #[.string Y, .string B, .int .i64 N] 68)
      have hbW : Below w2.heap.size w2 (w2.alloc (.cells #[.string Y, .string B, .int .i64 N] 68)) := (Below.refl _ w2).alloc (Nat.le_refl _) _
      have hlw := H1.out.lt
      have hsz2 := HB3.out.size
      obtain ⟨q, hq⟩ : ∃ q, w2.heap.size = q := ⟨_, rfl⟩
      rw [hq] at hblk hlw hsz2 ⊢
      have HBW := Lib.hid hbW
      clear hbW c0 x0 x1 x2 hB hN hY
      generalize w2.alloc (.cells #[.string Y, .string B, .int .i64 N] 68) = w3 at hblk HBW ⊢
      have hq3 := (Array.getElem?_eq_some_iff.1 hblk).1
      have H3 : MdD w3 m d F := H1.out.fresh HBW.out
      have hFq : ¬ F q := fun e => Nat.lt_irrefl _ (hlw q e)
      refine (mdelete_any w3 m d F H3 hl x).mono ?_
      rintro e w4 ⟨rfl, hk4, hd4⟩
      generalize (if d.find x = none then (6 : Int) else 0) = r4
      have hblk4 := hk4.grownTo hblk hFq
      have HK4 := Lib.hid hk4
      have HD4 := Lib.hid hd4
      have HBL := Lib.hid hblk4
      clear hk4 hd4 hblk hblk4
      go_wp2_with fail
      refine (mdelete_any w4 m (d.del x) _ HD4.out (Nat.le_trans (List.length_filter_le _ _) hl) y).mono ?_
      rintro e w5 ⟨rfl, hk5, hd5⟩
      generalize (if (d.del x).find y = none then (6 : Int) else 0) = r5
      have hblk5 := hk5.grownTo HBL.out (fun e => e.elim hFq (fun e => by omega))
      have f0 : w5.frozen? ⟨q, 0, none⟩ = false := frozen_block hblk5 0
      have b0 : w5.cell? ⟨q, 0, none⟩ = some (.string Y) := cell_of_row w5 q 0 _ _ _ hblk5
      have HK5 := Lib.hid hk5
      have HD5 := Lib.hid hd5
      have HBL5 := Lib.hid hblk5
      clear hk5 hd5 hblk5
      go_wp2_with fail
      have hk6 : Keeps (fun k => k = q) w5 (w5.setCell ⟨q, 0, none⟩ (.string y)) := Keeps.one w5 q 0 (.string y)
      have hblk6 := setCell_block (o := 0) HBL5.out (.string y)
      generalize w5.setCell ⟨q, 0, none⟩ (.string y) = w6 at hk6 hblk6 ⊢
      obtain ⟨S6, h6, hs6⟩ := HD5.out
      have h6 := h6.keep hk6 (fun k hk e => by
        subst e
        have z3 := HK4.out.size
        rcases hk with (hk | hk) | hk
        · exact hFq hk
        · omega
        · omega)
      obtain ⟨hno, hr0, hrm, hsrt⟩ := HREN.out S6 hs6
      have hS6 : S6.length ≤ 1000 := by
        rw [hs6.perm.length_eq]
        exact Nat.le_trans (List.length_filter_le _ _) (Nat.le_trans (List.length_filter_le _ _) hl)
      have hf6 := find_any w6 m d.room S6 _ h6 y (by omega)
      rw [hno] at hf6
      unfold insS at hsrt
      have hal := aheadF_le S6 y
      have HSRT := Lib.hid hsrt
      have HR0 := Lib.hid hr0
      have HRM := Lib.hid hrm
      have H6 := Lib.hid h6
      have HBL6 := Lib.hid hblk6
      have HK6 := Lib.hid hk6
      clear hsrt hno hr0 hrm h6 hs6 b0 f0 hblk6 hk6
      change Hid (Srt _ (S6.take (aheadF S6 y) ++ [(⟨y, B, N⟩ : Fl)] ++ S6.drop (aheadF S6 y))) at HSRT
      generalize aheadF S6 y = k at hf6 hal HSRT
      refine hf6.mono ?_
      clear hf6
      rintro e W ⟨rfl, hB7⟩
      have h7 := H6.out.fresh hB7
      have y0 : W.cell? ⟨q, 0, none⟩ = some (.string y) := cell_of_row W q 0 _ _ _ ((Keeps.of_fresh hB7 fun _ => False).grownTo HBL6.out id)
      have y1 : W.cell? ⟨q, 1, none⟩ = some (.string B) := cell_of_row W q 1 _ _ _ ((Keeps.of_fresh hB7 fun _ => False).grownTo HBL6.out id)
      have y2 : W.cell? ⟨q, 2, none⟩ = some (.int .i64 N) := cell_of_row W q 2 _ _ _ ((Keeps.of_fresh hB7 fun _ => False).grownTo HBL6.out id)
      have hqW : q < W.heap.size := by
        have := HK4.out.size
        have := HK5.out.size
        have := HK6.out.size
        have := hB7.size
        omega
      obtain ⟨v, h1⟩ := h7
      obtain ⟨A, c, rfl, hc1, hc2⟩ := h1.row.shape_ (n := S6.length) rfl
      unfold maxLen at hc2
      have c0 := h1.c0
      have hm := h1.lt _ h1.fm
      have HSl := Lib.hid (h1.row.sl elFl.len)
      have HB7 := Lib.hid hB7
      have H7 := Lib.hid h1
      clear h1 hB7
      have hch : ∀ w : World, (Instr.slice 62 (.slice A S6.length c) none (some (.int .i64 (k : Int))) none).run Tryd.prog w = .ok (.slice (cutA A c 0 3) k c) w := fun w => by
        simpa using run_cut_high (P := Tryd.prog) Tryd.underlying62 sizeFl A S6.length c (k : Int) (by omega) (by omega) w
      have hcl : ∀ w : World, (Instr.slice 62 (.slice A S6.length c) (some (.int .i64 (k : Int))) none none).run Tryd.prog w = .ok (.slice (cutA A c k 3) (S6.length - k) (c - k)) w := fun w => by
        have := run_cut_low (P := Tryd.prog) Tryd.underlying62 sizeFl A S6.length c (k : Int) (by omega) (by omega) w
        rwa [show (k : Int).toNat = k by omega] at this
      have tok : True := trivial
      go_wp2_with (first
        | (have hx2 := hown2
           at_builtin
           refine elFl.append _ (by rfl) (.tmp 57) (.tmp 63) (by rfl) W.heap.size _ (S6.take k ++ [⟨y, B, N⟩]) (by rfl) hx2 _ _ (S6.drop k) (by rfl) ((HSl.out.drop_ hal).fresh HBC.out) (by simp; omega) HBC.out.size ?_
           intro v4 w9 hown4 hg4 hat4
           obtain ⟨n4, hn4⟩ : ∃ n4, n4 = (S6.take k ++ [(⟨y, B, N⟩ : Fl)] ++ S6.drop k).length := ⟨_, rfl⟩
           obtain ⟨A4, c4, rfl, hcc, hcd⟩ := hown4.shape_ (n := n4) hn4.symm
           unfold maxLen at hcd
           have Hown4 := Lib.hid hown4
           have Hn4 := Lib.hid hn4
           clear hn4
           have hbd : Below W.heap.size W w9 := HBC.out.grown hg4 HBC.out.size (fun q hq => (hx2.lt q hq).1)
           have HBD := Lib.hid hbd
           have e0 := (hbd.cell (p := ⟨m, 0, none⟩) hm).trans c0
           have f0 : w9.frozen? ⟨m, 0, none⟩ = false := frozen_block (H7.out.fresh hbd).blk 0
           clear hown4 hown2 hx2 hbd d1)
        | (have hx1 := hown1
           have hbb : Below w7.heap.size w7 (w7.alloc (.cells #[.string y, .string B, .int .i64 N] 68)) := (Below.refl _ w7).alloc (Nat.le_refl _) _
           have hq : Below W.heap.size W (w7.alloc (.cells #[.string y, .string B, .int .i64 N] 68)) := HBA.out.trans (hbb.mono HBA.out.size)
           at_builtin
           refine elFl.append _ (by rfl) (.tmp 53) (.tmp 55) (by rfl) W.heap.size _ (S6.take k) (by rfl) (hx1.fresh hbb) _ _ [⟨y, B, N⟩] (by rfl) (Sl.single (k := 3) (enc := filc) (x := (⟨y, B, N⟩ : Fl)) (heap_alloc_new w7 (.cells #[.string y, .string B, .int .i64 N] 68)) rfl) (by simp; omega) hq.size ?_
           intro v2 w8 hown2 hg2 hat2
           have hbc : Below W.heap.size W w8 := hq.grown hg2 hq.size (fun q hq => (hx1.lt q hq).1)
           have HBC := Lib.hid hbc
           have d1 := (hbc.cell (p := ⟨m, 0, none⟩) hm).trans c0
           clear hown1 hx1 hbc hbb hq d0 u0 u1 u2)
        | (have t := tok
           at_builtin
           refine elFl.append _ (by rfl) (.tmp 45) (.tmp 51) (by rfl) W.heap.size (.slice (some ⟨W.heap.size, 0, none⟩) 0 0) [] (by rfl) (Own.made W (Nat.le_refl _) _ _ _) _ _ (S6.take k) (by rfl) ((HSl.out.take_ hal).fresh ((Below.refl _ _).alloc (Nat.le_refl _) _)) (by simp; omega) (by simp) ?_
           intro v1 w7 hown1 hg1 hat1
           rw [List.nil_append] at hown1
           have hba : Below W.heap.size W w7 := ((Below.refl _ W).alloc (Nat.le_refl _) _).grown hg1 (by simp) (fun q hq => by simp [Value.ownBlock] at hq; omega)
           have HBA := Lib.hid hba
           have d0 := (hba.cell (p := ⟨m, 0, none⟩) hm).trans c0
           have u0 := (hba.cell (p := ⟨q, 0, none⟩) hqW).trans y0
           have u1 := (hba.cell (p := ⟨q, 1, none⟩) hqW).trans y1
           have u2 := (hba.cell (p := ⟨q, 2, none⟩) hqW).trans y2
           clear tok t hba))
      have hn4 := Hn4.out
      clear Hn4
      subst hn4
      go_ret
      obtain ⟨q1, q2⟩ := H7.out.putI H7.out.lt (Keeps.refl _ W) HBD.out Hown4.out
      have zsz := q1.size
      have z4 := HK4.out.size
      have z5 := HK5.out.size
      have z6 := HK6.out.size
      have z7 := HB7.out.size
      have z3 := HBW.out.size
      have hK : Keeps F w (w9.setCell ⟨m, 0, none⟩ (.slice A4 (S6.take k ++ [(⟨y, B, N⟩ : Fl)] ++ S6.drop k).length c4)) :=
        ((((((Keeps.of_fresh HB3.out F).fresh HBW.out).andThen HK4.out (fun _ _ e => e)).andThen HK5.out (fun i hi e => e.elim id (fun e => by omega))).andThen HK6.out (fun i hi e => by omega)).fresh HB7.out).andThen q1
          (fun i hi e => by rcases e with (e | e) | e; exact e; omega; omega)
      refine ⟨by rw [HR0.out]; rfl, hK, _, ?_, HSRT.out⟩
      rw [HRM.out]
      refine MdAt.widen ⟨_, q2⟩ (fun b hb => ?_) (fun b hb => ?_)
      · rcases hb with ((hb | hb) | hb) | hb
        · exact Or.inl hb
        · exact Or.inr ⟨by omega, by omega⟩
        · exact Or.inr ⟨by omega, by omega⟩
        · exact Or.inr ⟨by omega, hb.2⟩
      · rcases hb with hb | hb
        · exact Nat.lt_of_lt_of_le (HS.out.lt b hb) hK.size
        · exact hb.2
    · have hn' : nameB y = false := by simpa using hn
      have hren : d.ren x y = (1, d) := by unfold Dk.ren; rw [hso]; exact if_pos hn'
      rw [hx] at hfind
      rw [hren]
      have HF := Lib.hid hfind
      have HN : Hid (∀ w1, Calls Tryd.prog 42 #[.string y] w1 fun e w' => e = .returned (.bool (nameB y)) ∧ Below w1.heap.size w1 w') := Lib.hid (fun w1 => rname_any w1 y (by omega))
      rw [hn'] at HN
      clear hfind hren hso hx hkn hS hs
      go_enter Tryd.func31, Tryd.ntmps31
      go_wp2_with fail
      refine HF.out.mono ?_
      rintro e w1 ⟨rfl, hB⟩
      have HB := Lib.hid hB
      clear hB
      go_wp2_with fail
      refine (HN.out w1).mono ?_
      rintro e w2 ⟨rfl, hB2⟩
      have HB2 := Lib.hid hB2
      clear hB2
      go_wp2_with fail
      go_ret
      exact ⟨rfl, MOut.same ⟨S, HS.out, Hs.out⟩ (HB.out.trans (HB2.out.mono HB.out.size))⟩
end Go.Proofs.YtiphnobefigibaaDoor
