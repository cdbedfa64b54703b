/- The document's disk: New refused, Append. Under the stated premises on sizes. -/
import Derived.Test.YtiphnobefigibaaDoorDskV
import Derived.BigQuiet
import Derived.IntWalk
namespace Go.Proofs.YtiphnobefigibaaDoor
open Go.RowKit Go.Bl
attribute [local go_sem ↓] Go.wp_at_zero Go.wp_at_succ

theorem MdIn.putI {w w1 w3 : World} {m : Nat} {room : Int} {S S' : List Fl} {F : Nat → Prop} {v v' : Value} (h : MdIn w1 m room S F v) (hF : ∀ k, F k → k < w.heap.size) (hk : Keeps F w w1) (hB : Below w1.heap.size w1 w3) (hO : Own w3 w1.heap.size 68 3 filc v' S') :
    Keeps F w (w3.setCell ⟨m, 0, none⟩ v') ∧ MdIn (w3.setCell ⟨m, 0, none⟩ v') m room S' (fun k => F k ∨ (w.heap.size ≤ k ∧ k < (w3.setCell ⟨m, 0, none⟩ v').heap.size)) v' := by
  have hm := hF m h.fm
  have z1 := hk.size
  have z3 := hB.size
  have hks : Keeps (fun q => q = m) w3 (w3.setCell ⟨m, 0, none⟩ v') := (Keeps.refl (fun q => q = m) w3).setCell (p := ⟨m, 0, none⟩) (fun _ => rfl) v'
  have z4 := hks.size
  refine ⟨(hk.fresh hB).andThen hks (fun i _ e => e ▸ h.fm), ?_, ?_, .inl h.fm, fun b hb => ?_, fun k hk => ?_⟩
  · exact setCell_block' (o := 0) (v := v') ((h.fresh hB).blk)
  · exact (hO.lower (Nat.zero_le _)).keep hks (fun b hb e => by have := (hO.lt b hb).1; omega)
  · have := hO.lt b hb
    exact .inr ⟨by omega, by omega⟩
  · rcases hk with hk | hk
    · have := hF k hk; omega
    · exact hk.2
theorem MdAt.widen {w : World} {m : Nat} {room : Int} {S : List Fl} {F F' : Nat → Prop} (h : MdAt w m room S F) (hF : ∀ k, F k → F' k) (hl : ∀ k, F' k → k < w.heap.size) : MdAt w m room S F' := by
  obtain ⟨v, h⟩ := h
  exact ⟨v, h.blk, h.row, hF _ h.fm, fun q hq => hF _ (h.fv q hq), hl⟩
theorem ins_set {S : List Fl} {k : Nat} (hk : k ≤ S.length) {f0 : Fl} (h : k < (S.take k ++ [f0] ++ S.drop k).length) (f : Fl) : (S.take k ++ [f0] ++ S.drop k)[k] = f0 ∧ (S.take k ++ [f0] ++ S.drop k).set k f = S.take k ++ [f] ++ S.drop k := by
  have hl : (S.take k).length = k := by simp; omega
  constructor
  · rw [List.getElem_append_left (by simp; omega), List.getElem_append_right (by omega)]
    simp
  · rw [List.append_assoc, List.append_assoc, List.set_append_right _ _ (by omega), hl, Nat.sub_self]
    rfl
theorem mnew_bad (w : World) (room : Int) (h : room < 1 ∨ 1073741824 < room) : Calls Tryd.prog 17 #[.int .i64 room] w fun e w' => e = .returned (.tuple #[.pointer none, .int .i64 1]) ∧ w = w' := by
  go_enter Tryd.func17, Tryd.ntmps17
  by_cases h1 : room < 1
  · have d1 : decide (room < 1) = true := by simpa using h1
    go_wp2_with fail
    go_ret2
    exact ⟨rfl, rfl⟩
  · have d1 : decide (room < 1) = false := by simpa using h1
    have d2 : decide (1073741824 < room) = true := by simp; omega
    go_wp2_with fail
    go_ret2
    exact ⟨rfl, rfl⟩

set_option maxRecDepth 8000 in
set_option maxHeartbeats 4000000 in
theorem mappend_any (w : World) (m : Nat) (d : Dk) (F : Nat → Prop) (h : MdD w m d F) (hl : d.L.length ≤ 1000) (ht : d.used ≤ 1000000000000) (x s : ByteArray) (hx1 : x.size ≤ 1000000) (hs1 : s.size ≤ 1000000000) :
    Calls Tryd.prog 29 #[.pointer (some ⟨m, 0, none⟩), .string x, .string s] w fun e w' => e = .returned (.int .i64 (d.app x s).1) ∧ MOut w w' m (d.app x s).2 F := by
  obtain ⟨S, hS, hs⟩ := h
  have hlen : S.length ≤ 1000 := by rw [hs.perm.length_eq]; exact hl
  have hleq : S.length = d.L.length := hs.perm.length_eq
  have hus := hs.used
  have hname := rname_any w x (by omega)
  have HS := Lib.hid hS
  have Hs := Lib.hid hs
  have hal := aheadF_le S x
  by_cases hn : nameB x = true
  · rw [hn] at hname
    have hfind : ∀ w1, Below w.heap.size w w1 → Calls Tryd.prog 34 #[.pointer (some ⟨m, 0, none⟩), .string x] w1 fun e w' => e = .returned (.tuple #[.int .i64 (aheadF S x), .bool (isF S x)]) ∧ Below w1.heap.size w1 w' :=
      fun w1 hB => find_any w1 m d.room S F (HS.out.fresh hB) x (by omega)
    have hT2 : total S ≤ 1000000000000 := by omega
    have hmu : ∀ w2, Below w.heap.size w w2 → ∀ n, Calls Tryd.prog 36 #[.pointer (some ⟨m, 0, none⟩)] (w2.drewN n) fun e w' => e = .returned (.int .i64 (total S)) ∧ w' = w2.drewN n :=
      fun w2 hB n => (mused_any (w2.drewN n) m d.room S F (HS.out.fresh (hB.trans ⟨rfl, rfl, rfl, Nat.le_refl _, fun _ _ => rfl⟩)) (by omega) hT2).mono fun _ _ h => ⟨h.1, h.2.symm⟩
    have hT3 := hT2
    obtain ⟨T, hT⟩ : ∃ T, total S = T := ⟨_, rfl⟩
    rw [hT] at hmu hT2 hus
    clear hT
    have HN := Lib.hid hname
    cases hx : isF S x
    · have hno := hs.none hx
      have happ : d.app x s = if 40 ≤ S.length then (4, d) else if d.room - T < s.size then (8, d) else (0, d.put x s) := by
        unfold Dk.app; rw [if_neg (by simp [hn]), hno, hleq, hus]
      have hput : ∀ f : Fl, f.name = x → Srt ⟨d.room, d.L ++ [f]⟩ (S.take (aheadF S x) ++ [f] ++ S.drop (aheadF S x)) := fun f hf => by
        have := hs.put (f := f) (by rw [hf]; exact hx)
        unfold insS at this
        rw [hf] at this
        exact this
      have HPUT := Lib.hid hput
      rw [hx] at hfind
      rw [happ]
      clear happ hput hx hS hs hno hleq hus ht hname hT3
      generalize aheadF S x = k at hal hfind HPUT ⊢
      have HF := Lib.hid hfind
      have HM := Lib.hid hmu
      clear hfind hmu
      by_cases h40 : 40 ≤ S.length
      · rw [if_pos h40]
        have h40' : (40 : Int) ≤ (S.length : Int) := by omega
        go_enter Tryd.func29, Tryd.ntmps29
        go_wp2_with fail
        refine HN.out.mono ?_
        rintro e w1 ⟨rfl, hB⟩
        have HB := Lib.hid hB
        clear hB
        go_wp2_with fail
        refine (HF.out w1 HB.out).mono ?_
        rintro e w2 ⟨rfl, hB2⟩
        have hB3 := HB.out.trans (hB2.mono HB.out.size)
        obtain ⟨v, h1⟩ := HS.out.fresh hB3
        obtain ⟨A, c, rfl, hc1, hc2⟩ := h1.row.shape_ (n := S.length) rfl
        unfold maxLen at hc2
        have c0 := h1.c0
        have HB3 := Lib.hid hB3
        clear hB2 hB3 h1
        go_wp2_with fail
        go_ret
        exact ⟨rfl, MOut.same ⟨S, HS.out, Hs.out⟩ HB3.out⟩
      · rw [if_neg h40]
        have h40' : ¬ (40 : Int) ≤ (S.length : Int) := by omega
        by_cases hr : d.room - T < s.size
        · rw [if_pos hr]
          have hd : decide (d.room < (T : Int) + (s.size : Int)) = true := by simp; omega
          have hw : IntKind.i64.wrap ((T : Int) + (s.size : Int)) = (T : Int) + (s.size : Int) := IntWalk.i64_in _ (by omega)
          have HW := Lib.hid hw
          clear hw
          go_enter Tryd.func29, Tryd.ntmps29
          go_wp2_with fail
          refine HN.out.mono ?_
          rintro e w1 ⟨rfl, hB⟩
          have HB := Lib.hid hB
          clear hB
          go_wp2_with fail
          refine (HF.out w1 HB.out).mono ?_
          rintro e w2 ⟨rfl, hB2⟩
          have hB3 := HB.out.trans (hB2.mono HB.out.size)
          obtain ⟨v, h1⟩ := HS.out.fresh hB3
          obtain ⟨A, c, rfl, hc1, hc2⟩ := h1.row.shape_ (n := S.length) rfl
          unfold maxLen at hc2
          have c0 := h1.c0
          have c1 := h1.c1
          have HB3 := Lib.hid hB3
          have HM2 := Lib.hid (HM.out w2 hB3)
          clear hB2 hB3 h1
          go_wp2_with fail
          have hw := HW.out
          go_quiet (exact (HM2.out _).mono fun _ _ h => ⟨h.1, _, h.2⟩)
          clear hw
          go_wp2_with fail
          go_ret
          exact ⟨rfl, MOut.same ⟨S, HS.out, Hs.out⟩ (HB3.out.trans ⟨rfl, rfl, rfl, Nat.le_refl _, fun _ _ => rfl⟩)⟩
        · rw [if_neg hr]
          have hd : decide (d.room < (T : Int) + (s.size : Int)) = false := by simp; omega
          have hw : IntKind.i64.wrap ((T : Int) + (s.size : Int)) = (T : Int) + (s.size : Int) := IntWalk.i64_in _ (by omega)
          have HW := Lib.hid hw
          clear hw
          go_enter Tryd.func29, Tryd.ntmps29
          go_wp2_with fail
          refine HN.out.mono ?_
          rintro e w1 ⟨rfl, hB⟩
          have HB := Lib.hid hB
          clear hB
          go_wp2_with fail
          refine (HF.out w1 HB.out).mono ?_
          rintro e w2 ⟨rfl, hB2⟩
          have hB3 := HB.out.trans (hB2.mono HB.out.size)
          obtain ⟨v, h1⟩ := HS.out.fresh hB3
          obtain ⟨A, c, rfl, hc1, hc2⟩ := h1.row.shape_ (n := S.length) rfl
          unfold maxLen at hc2
          have c0 := h1.c0
          have c1 := h1.c1
          have HB3 := Lib.hid hB3
          have HM2 := Lib.hid (HM.out w2 hB3)
          clear hB2 hB3 h1
          go_wp2_with fail
          have hw := HW.out
          go_quiet (exact (HM2.out _).mono fun _ _ h => ⟨h.1, _, h.2⟩)
          clear hw
          have hBW : Below w.heap.size w (w2.drewN nq) := HB3.out.trans ⟨rfl, rfl, rfl, Nat.le_refl _, fun _ _ => rfl⟩
          clear HM2 HM HF HN HB3 c0 c1 hc1 hc2
          revert hBW
          generalize w2.drewN nq = W
          intro hBW
          obtain ⟨v, h1⟩ := HS.out.fresh hBW
          obtain ⟨A, c, rfl, hc1, hc2⟩ := h1.row.shape_ (n := S.length) rfl
          unfold maxLen at hc2
          have c0 := h1.c0
          have hm := h1.lt _ h1.fm
          have HSl := Lib.hid (h1.row.sl elFl.len)
          have HBW := Lib.hid hBW
          have H1 := Lib.hid h1
          clear h1 hBW
          have hch : ∀ w : World, (Instr.slice 62 (.slice A S.length c) none (some (.int .i64 (k : Int))) none).run Tryd.prog w = .ok (.slice (cutA A c 0 3) k c) w := fun w => by
            simpa using run_cut_high (P := Tryd.prog) Tryd.underlying62 sizeFl A S.length c (k : Int) (by omega) (by omega) w
          have hcl : ∀ w : World, (Instr.slice 62 (.slice A S.length c) (some (.int .i64 (k : Int))) none none).run Tryd.prog w = .ok (.slice (cutA A c k 3) (S.length - k) (c - k)) w := fun w => by
            have := run_cut_low (P := Tryd.prog) Tryd.underlying62 sizeFl A S.length c (k : Int) (by omega) (by omega) w
            rwa [show (k : Int).toNat = k by omega] at this
          have tok : True := trivial
          go_wp2_with (first
            | (have hx2 := hown2
               at_builtin
               refine elFl.append _ (by rfl) (.tmp 56) (.tmp 62) (by rfl) W.heap.size _ (S.take k ++ [⟨x, ⟨#[]⟩, 0⟩]) (by rfl) hx2 _ _ (S.drop k) (by rfl) ((HSl.out.drop_ hal).fresh HBC.out) (by simp; omega) HBC.out.size ?_
               intro v4 w4 hown4 hg4 hat4
               obtain ⟨n4, hn4⟩ : ∃ n4, n4 = (S.take k ++ [(⟨x, ⟨#[]⟩, 0⟩ : Fl)] ++ S.drop k).length := ⟨_, rfl⟩
               obtain ⟨A4, c4, rfl, hcc, hcd⟩ := hown4.shape_ (n := n4) hn4.symm
               unfold maxLen at hcd
               have Hown4 := Lib.hid hown4
               have Hn4 := Lib.hid hn4
               clear hn4
               have hbd : Below W.heap.size W w4 := HBC.out.grown hg4 HBC.out.size (fun q hq => (hx2.lt q hq).1)
               have HBD := Lib.hid hbd
               have e0 := (hbd.cell (p := ⟨m, 0, none⟩) hm).trans c0
               have f0 : w4.frozen? ⟨m, 0, none⟩ = false := frozen_block (H1.out.fresh hbd).blk 0
               clear hown4 hown2 hx2 hbd d1)
            | (have hx1 := hown1
               have hbb : Below w2.heap.size w2 (w2.alloc (.cells #[.string x, .string ByteArray.empty, .int .i64 0] 68)) := (Below.refl _ w2).alloc (Nat.le_refl _) _
               have hq : Below W.heap.size W (w2.alloc (.cells #[.string x, .string ByteArray.empty, .int .i64 0] 68)) := HBA.out.trans (hbb.mono HBA.out.size)
               at_builtin
               refine elFl.append _ (by rfl) (.tmp 51) (.tmp 54) (by rfl) W.heap.size _ (S.take k) (by rfl) (hx1.fresh hbb) _ _ [⟨x, ⟨#[]⟩, 0⟩] (by rfl) (Sl.single (k := 3) (enc := filc) (x := (⟨x, ⟨#[]⟩, 0⟩ : Fl)) (heap_alloc_new w2 (.cells #[.string x, .string ByteArray.empty, .int .i64 0] 68)) rfl) (by simp; omega) hq.size ?_
               intro v2 w3 hown2 hg2 hat2
               have hbc : Below W.heap.size W w3 := hq.grown hg2 hq.size (fun q hq => (hx1.lt q hq).1)
               have HBC := Lib.hid hbc
               have d1 := (hbc.cell (p := ⟨m, 0, none⟩) hm).trans c0
               clear hown1 hx1 hbc hbb hq d0)
            | (have t := tok
               at_builtin
               refine elFl.append _ (by rfl) (.tmp 43) (.tmp 49) (by rfl) W.heap.size (.slice (some ⟨W.heap.size, 0, none⟩) 0 0) [] (by rfl) (Own.made W (Nat.le_refl _) _ _ _) _ _ (S.take k) (by rfl) ((HSl.out.take_ hal).fresh ((Below.refl _ _).alloc (Nat.le_refl _) _)) (by simp; omega) (by simp) ?_
               intro v1 w2 hown1 hg1 hat1
               rw [List.nil_append] at hown1
               have hba : Below W.heap.size W w2 := ((Below.refl _ W).alloc (Nat.le_refl _) _).grown hg1 (by simp) (fun q hq => by simp [Value.ownBlock] at hq; omega)
               have HBA := Lib.hid hba
               have d0 := (hba.cell (p := ⟨m, 0, none⟩) hm).trans c0
               clear tok t hba))
          have hn4 := Hn4.out
          clear Hn4
          subst hn4
          obtain ⟨q1, q2⟩ := H1.out.putI HS.out.lt (Keeps.of_fresh HBW.out F) HBD.out Hown4.out
          have hk5 : k < (S.take k ++ [(⟨x, ⟨#[]⟩, 0⟩ : Fl)] ++ S.drop k).length := by simp; omega
          have hs5 := fun f => ins_set hal hk5 f
          obtain ⟨hs5a, _⟩ := ins_set hal hk5 (⟨x, s, 0⟩ : Fl)
          clear hch hcl hm c0 e0 f0
          generalize hW5 : w4.setCell ⟨m, 0, none⟩ (.slice A4 (S.take k ++ [(⟨x, ⟨#[]⟩, 0⟩ : Fl)] ++ S.drop k).length c4) = W5 at q1 q2 ⊢
          generalize hS5 : S.take k ++ [(⟨x, ⟨#[]⟩, 0⟩ : Fl)] ++ S.drop k = S5 at q1 q2 hk5 hs5a hs5 ⊢
          have hsb : S5[k].bytes.size = 0 := by rw [hs5a]; rfl
          have H5 := Lib.hid q2
          have Q1 := Lib.hid q1
          have HS5 := Lib.hid hs5
          clear q1 q2 hs5 hs5a hW5 hS5 HBD Hown4 hc1 hc2 hcc
          obtain ⟨g, c6, cur, hv, hc61, hc62, hg⟩ := H5.out.head (by omega)
          injection hv with hv1 hv2 hv3
          subst hv1 hv3
          unfold maxLen at hc62
          have c0 := H5.out.c0
          obtain ⟨b, o, e, _, _, hxx⟩ := (H5.out.row.sl elFl.len).cell_ hk5
          injection e with e
          injection e with e1 e2 _
          subst e1 e2
          have x1 := hxx 1 _ rfl
          simp only [Nat.zero_add] at x1
          have f1 : W5.frozen? ⟨g, k * 3 + 1, none⟩ = false := frozen_block hg _
          have hk0 : (0 : Int) ≤ (k : Int) := by omega
          have hk1 : (k : Int) < (S5.length : Int) := by omega
          have HLB := Lib.hid hsb
          have hcat : ¬ 9223372036854775807 < S5[k].bytes.size + s.size := by omega
          clear hxx hg hsb
          go_still_tail 17, (by kernel_rfl)
          change wpList _ _ _ _ _ W5.drew
          go_wp2_with fail
          go_ret
          have H6 := H5.out.fresh (show Below W5.heap.size W5 W5.drew from ⟨rfl, rfl, rfl, Nat.le_refl _, fun _ _ => rfl⟩)
          obtain ⟨z1, z2⟩ := H6.set H5.out.lt (Keeps.drew (Keeps.refl _ W5)) hk5 (j := 1) (by decide) (x := growF s S5[k]) (u := .string (S5[k].bytes ++ s)) rfl
          have ze := (HS5.out (growF s S5[k])).2
          have z0 : growF s S5[k] = ⟨x, s, 0⟩ := by rw [(HS5.out ⟨x, s, 0⟩).1]; exact congrArg (fun b => (⟨x, b, 0⟩ : Fl)) (ByteArray.empty_append)
          rw [ze, z0] at z2
          refine ⟨rfl, Q1.out.andThen z1 (fun i hi e => e.elim id (fun e => absurd hi (by omega))), _, ?_, HPUT.out ⟨x, s, 0⟩ rfl⟩
          have zs1 := Q1.out.size
          have zs2 : W5.heap.size ≤ (W5.drew.setCell ⟨g, k * 3 + 1, none⟩ (.string (S5[k].bytes ++ s))).heap.size := z1.size
          refine MdAt.widen (w := W5.drew.setCell ⟨g, k * 3 + 1, none⟩ (.string (S5[k].bytes ++ s))) z2 (fun b hb => ?_) (fun b hb => ?_)
          · rcases hb with (hb | hb) | hb
            · exact Or.inl hb
            · exact Or.inr ⟨hb.1, Nat.lt_of_lt_of_le hb.2 zs2⟩
            · exact Or.inr ⟨Nat.le_trans zs1 hb.1, hb.2⟩
          · rcases hb with hb | hb
            · exact Nat.lt_of_lt_of_le (HS.out.lt b hb) (Nat.le_trans zs1 zs2)
            · exact hb.2
    · obtain ⟨hk, hkn⟩ := isF_yes hx
      have hso := hs.some hx (f := S[aheadF S x]) (fun _ => rfl)
      have hset := setS_eq hs.rise hx (g := growF s) (f := growF s S[aheadF S x]) (fun _ => rfl)
      have HSET := Lib.hid hset
      have hsb : S[aheadF S x].bytes.size ≤ 1000000000000 := Nat.le_trans (total_mem (List.getElem_mem hk)) hT3
      have happ : d.app x s = if d.room - T < s.size then (8, d) else (0, d.grow x s) := by
        unfold Dk.app; rw [if_neg (by simp [hn]), hso, hus]
      rw [hx] at hfind
      rw [happ]
      clear happ hset hso hx hS hs hleq hus ht hname hkn hT3
      generalize aheadF S x = k at hk hal hfind HSET hsb ⊢
      have HF := Lib.hid hfind
      have HM := Lib.hid hmu
      clear hfind hmu
      by_cases hr : d.room - T < s.size
      · rw [if_pos hr]
        have hd : decide (d.room < (T : Int) + (s.size : Int)) = true := by simp; omega
        have hw : IntKind.i64.wrap ((T : Int) + (s.size : Int)) = (T : Int) + (s.size : Int) := IntWalk.i64_in _ (by omega)
        have HW := Lib.hid hw
        clear hw
        go_enter Tryd.func29, Tryd.ntmps29
        go_wp2_with fail
        refine HN.out.mono ?_
        rintro e w1 ⟨rfl, hB⟩
        have HB := Lib.hid hB
        clear hB
        go_wp2_with fail
        refine (HF.out w1 HB.out).mono ?_
        rintro e w2 ⟨rfl, hB2⟩
        have hB3 := HB.out.trans (hB2.mono HB.out.size)
        obtain ⟨v, h1⟩ := HS.out.fresh hB3
        obtain ⟨A, c, rfl, hc1, hc2⟩ := h1.row.shape_ (n := S.length) rfl
        unfold maxLen at hc2
        have c0 := h1.c0
        have c1 := h1.c1
        have HB3 := Lib.hid hB3
        have HM2 := Lib.hid (HM.out w2 hB3)
        clear hB2 hB3 h1
        go_wp2_with fail
        have hw := HW.out
        go_quiet (exact (HM2.out _).mono fun _ _ h => ⟨h.1, _, h.2⟩)
        clear hw
        go_wp2_with fail
        go_ret
        exact ⟨rfl, MOut.same ⟨S, HS.out, Hs.out⟩ (HB3.out.trans ⟨rfl, rfl, rfl, Nat.le_refl _, fun _ _ => rfl⟩)⟩
      · rw [if_neg hr]
        have hd : decide (d.room < (T : Int) + (s.size : Int)) = false := by simp; omega
        have hw : IntKind.i64.wrap ((T : Int) + (s.size : Int)) = (T : Int) + (s.size : Int) := IntWalk.i64_in _ (by omega)
        have HW := Lib.hid hw
        clear hw
        go_enter Tryd.func29, Tryd.ntmps29
        go_wp2_with fail
        refine HN.out.mono ?_
        rintro e w1 ⟨rfl, hB⟩
        have HB := Lib.hid hB
        clear hB
        go_wp2_with fail
        refine (HF.out w1 HB.out).mono ?_
        rintro e w2 ⟨rfl, hB2⟩
        have hB3 := HB.out.trans (hB2.mono HB.out.size)
        obtain ⟨v, h1⟩ := HS.out.fresh hB3
        obtain ⟨A, c, rfl, hc1, hc2⟩ := h1.row.shape_ (n := S.length) rfl
        unfold maxLen at hc2
        have c0 := h1.c0
        have c1 := h1.c1
        have HB3 := Lib.hid hB3
        have HM2 := Lib.hid (HM.out w2 hB3)
        clear hB2 hB3 h1
        go_wp2_with fail
        have hw := HW.out
        go_quiet (exact (HM2.out _).mono fun _ _ h => ⟨h.1, _, h.2⟩)
        clear hw
        have hBW : Below w.heap.size w (w2.drewN nq) := HB3.out.trans ⟨rfl, rfl, rfl, Nat.le_refl _, fun _ _ => rfl⟩
        clear HM2 HM HF HN HB3 c0 c1 hc1 hc2
        revert hBW
        generalize w2.drewN nq = W
        intro hBW
        obtain ⟨v, h1⟩ := HS.out.fresh hBW
        obtain ⟨A5, c5, rfl, hc1, hc2⟩ := h1.row.shape_ (n := S.length) rfl
        have H5 := Lib.hid h1
        have HBW := Lib.hid hBW
        have hk5 : k < S.length := hk
        clear h1 hBW hc1 hc2
        go_wp2_with fail
        obtain ⟨g, c6, cur, hv, hc61, hc62, hg⟩ := H5.out.head (by omega)
        injection hv with hv1 hv2 hv3
        subst hv1 hv3
        unfold maxLen at hc62
        have c0 := H5.out.c0
        obtain ⟨b, o, e, _, _, hxx⟩ := (H5.out.row.sl elFl.len).cell_ hk5
        injection e with e
        injection e with e1 e2 _
        subst e1 e2
        have x1 := hxx 1 _ rfl
        simp only [Nat.zero_add] at x1
        have f1 : W.frozen? ⟨g, k * 3 + 1, none⟩ = false := frozen_block hg _
        have hk0 : (0 : Int) ≤ (k : Int) := by omega
        have hk1 : (k : Int) < (S.length : Int) := by omega
        have HLB := Lib.hid hsb
        have hcat : ¬ 9223372036854775807 < S[k].bytes.size + s.size := by omega
        clear hxx hg hsb
        go_still_tail 17, (by kernel_rfl)
        change wpList _ _ _ _ _ W.drew
        go_wp2_with fail
        go_ret
        have H6 := H5.out.fresh (show Below W.heap.size W W.drew from ⟨rfl, rfl, rfl, Nat.le_refl _, fun _ _ => rfl⟩)
        obtain ⟨z1, z2⟩ := H6.set HS.out.lt (((Keeps.of_fresh HBW.out F)).drew) hk5 (j := 1) (by decide) (x := growF s S[k]) (u := .string (S[k].bytes ++ s)) rfl
        refine ⟨rfl, z1, updL x (growF s) S, ?_, Hs.out.upd x (fun _ => rfl)⟩
        rw [← HSET.out]
        exact z2
  · have hn' : nameB x = false := by simpa using hn
    have happ : d.app x s = (1, d) := by unfold Dk.app; rw [if_pos hn']
    rw [hn'] at hname
    rw [happ]
    have HN := Lib.hid hname
    clear hname happ hS hs
    go_enter Tryd.func29, Tryd.ntmps29
    go_wp2_with fail
    refine HN.out.mono ?_
    rintro e w1 ⟨rfl, hB⟩
    have HB := Lib.hid hB
    clear hB
    go_wp2_with fail
    go_ret
    exact ⟨rfl, MOut.same ⟨S, HS.out, Hs.out⟩ HB.out⟩
end Go.Proofs.YtiphnobefigibaaDoor
