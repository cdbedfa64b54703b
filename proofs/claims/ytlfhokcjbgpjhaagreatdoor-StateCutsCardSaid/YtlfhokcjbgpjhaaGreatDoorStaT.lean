/- The statements' helper alike: a state and the document's state that hold the same are alike. Under the stated premises on sizes. -/
import Derived.Test.YtlfhokcjbgpjhaaGreatDoorStaR
import Derived.Test.YtlfhokcjbgpjhaaGreatDoorStaC
import Derived.Test.YtlfhokcjbgpjhaaGreatDoorStaE
import Derived.Test.YtlfhokcjbgpjhaaGreatDoorIdxQ
namespace Go.Proofs.YtlfhokcjbgpjhaaGreatDoor
open Go.RowKit Go.Bl
attribute [local go_sem ↓] Go.wp_at_zero Go.wp_at_succ

/-! ### rising lists -/
def insI (x : Int) : List Int → List Int
  | [] => [x]
  | y :: ys => if x < y then x :: y :: ys else if x = y then y :: ys else y :: insI x ys
theorem insI_mem (x z : Int) : ∀ ks : List Int, z ∈ insI x ks ↔ z = x ∨ z ∈ ks
  | [] => by simp [insI]
  | y :: ys => by
    unfold insI
    split
    · simp
    · split
      · rename_i h; subst h; simp
      · rw [List.mem_cons, insI_mem x z ys, List.mem_cons]
        constructor
        · rintro (h | h | h) <;> simp [h]
        · rintro (h | h | h) <;> simp [h]
theorem insI_rise (x : Int) : ∀ {ks : List Int}, ks.Pairwise (· < ·) → (insI x ks).Pairwise (· < ·)
  | [], _ => by simp [insI]
  | y :: ys, h => by
    obtain ⟨h1, h2⟩ := List.pairwise_cons.1 h
    unfold insI
    split
    · rename_i hxy
      refine List.pairwise_cons.2 ⟨fun z hz => ?_, h⟩
      rcases List.mem_cons.1 hz with e | e
      · omega
      · have := h1 z e; omega
    · split
      · exact h
      · refine List.pairwise_cons.2 ⟨fun z hz => ?_, insI_rise x h2⟩
        rcases (insI_mem x z ys).1 hz with e | e
        · omega
        · exact h1 z e
theorem rise_of : ∀ l : List Int, ∃ ks : List Int, ks.Pairwise (· < ·) ∧ ∀ x, x ∈ ks ↔ x ∈ l
  | [] => ⟨[], List.Pairwise.nil, fun _ => Iff.rfl⟩
  | y :: l => by
    obtain ⟨ks, h1, h2⟩ := rise_of l
    exact ⟨insI y ks, insI_rise y h1, fun x => by rw [insI_mem, List.mem_cons, h2]⟩
theorem sess_of (L : List Ded.En) : ∃ ks : List Int, ks.Pairwise (· < ·) ∧ ∀ x, x ∈ ks ↔ ∃ e ∈ L, e.ses = x := by
  obtain ⟨ks, h1, h2⟩ := rise_of (L.map Ded.En.ses)
  exact ⟨ks, h1, fun x => by rw [h2, List.mem_map]⟩
theorem seqs_of (L : List Ded.En) (x : Int) : ∃ ks : List Int, ks.Pairwise (· < ·) ∧ ∀ y, y ∈ ks ↔ (Ded.lookL L x y).2 = 1 := by
  obtain ⟨ks, h1, h2⟩ := rise_of ((L.filter fun e => decide ((Ded.lookL L x e.seq).2 = 1) && decide (e.ses = x)).map Ded.En.seq)
  refine ⟨ks, h1, fun y => ?_⟩
  rw [h2, List.mem_map]
  constructor
  · rintro ⟨e, he, rfl⟩
    have := (List.mem_filter.1 he).2
    simp only [Bool.and_eq_true, decide_eq_true_eq] at this
    exact this.1
  · intro hy
    have hf : ∃ o, Ded.findL L x y = some o := by
      unfold Ded.lookL at hy
      split at hy
      · simp at hy
      · cases hc : Ded.findL L x y with
        | none => rw [hc] at hy; simp at hy
        | some o => exact ⟨o, rfl⟩
    obtain ⟨o, ho⟩ := hf
    obtain ⟨e, he, e1, e2⟩ := find_at ho
    exact ⟨e, List.mem_filter.2 ⟨he, by rw [e2]; simp [hy, e1]⟩, e2⟩

/-! ### the two states' readers -/
section
variable (w : World) (p : Nat) (s : St) (F W : Nat → Prop) (h : StAt w p s F W)
include h
theorem ssess_any (hL : s.T.length ≤ 1073741824) {ks : List Int} (hk : ks.Pairwise (· < ·)) (hm : ∀ x, x ∈ ks ↔ ∃ e ∈ s.T, e.ses = x) : Calls Tryz.prog 35 #[.pointer (some ⟨p, 0, none⟩)] w fun e w' => ∃ v, e = .returned v ∧ ks.length ≤ s.T.length ∧ Sl w' (fun b => w.heap.size ≤ b) 1 intc v ks ∧ Below w.heap.size w w' := by
  obtain ⟨px, pt, FX, FT, GT, h⟩ := h
  have c1 := h.c1
  have HI := Lib.hid h.tab
  clear h
  go_enter Tryz.func35, Tryz.ntmps35
  go_wp2_with fail
  refine (Ded.sess_any w pt s.T FT GT HI.out hL).mono ?_
  rintro e w2 ⟨v, js, rfl, hj, hjm, hjl, hS, hB⟩
  obtain rfl : js = ks := Ded.rising_one hj hk (fun z => by rw [hjm, hm])
  have HS := Lib.hid hS
  have HB := Lib.hid hB
  have HJ := Lib.hid hjl
  clear hS hB hjm hjl hm
  go_wp2_with fail
  go_ret
  exact ⟨v, rfl, HJ.out, HS.out, HB.out⟩
theorem sseqs_any (hL : s.T.length ≤ 1073741824) (x : Int) (hx : Ded.i64 x) {ks : List Int} (hk : ks.Pairwise (· < ·)) (hm : ∀ y, y ∈ ks ↔ (Ded.lookL s.T x y).2 = 1) : Calls Tryz.prog 44 #[.pointer (some ⟨p, 0, none⟩), .int .i64 x] w fun e w' => ∃ v, e = .returned v ∧ ks.length ≤ s.T.length ∧ Sl w' (fun b => w.heap.size ≤ b) 1 intc v ks ∧ Below w.heap.size w w' := by
  obtain ⟨px, pt, FX, FT, GT, h⟩ := h
  have c1 := h.c1
  have HI := Lib.hid h.tab
  clear h
  go_enter Tryz.func44, Tryz.ntmps44
  go_wp2_with fail
  refine (Ded.seqs_any w pt s.T FT GT HI.out hL x hx).mono ?_
  rintro e w2 ⟨v, js, rfl, hj, hjm, hjl, hS, hB⟩
  obtain rfl : js = ks := Ded.rising_one hj hk (fun z => by rw [hjm, hm])
  have HS := Lib.hid hS
  have HB := Lib.hid hB
  have HJ := Lib.hid hjl
  clear hS hB hjm hjl hm
  go_wp2_with fail
  go_ret
  exact ⟨v, rfl, HJ.out, HS.out, HB.out⟩
end
theorem mread_any (w : World) (m : Nat) (s : St) (F : Nat → Prop) (h : MtAt w m s F) (n : ByteArray) (k : Int) (hL : s.L.length ≤ 1073741824) : Calls Tryz.prog 41 #[.pointer (some ⟨m, 0, none⟩), .string n, .int .i64 k] w fun e w' => ∃ v, e = .returned v ∧ Below w.heap.size w w' ∧
      Sl w' (fun b => w.heap.size ≤ b) 2 evc v ((((Idx.ofS s.L n).drop (max k 1 - 1).toNat).take 16).map Idx.Kp.e) := by
  obtain ⟨x, t, FX, FT, h⟩ := h
  have c0 := h.c0
  have HI := Lib.hid h.idx
  clear h
  go_enter Tryz.func41, Tryz.ntmps41
  go_wp2_with fail
  refine (Idx.rrange_any w x s.L FX HI.out n k 16 hL).mono ?_
  rintro e w2 ⟨v, rfl, hB, hS⟩
  have HS := Lib.hid hS
  have HB := Lib.hid hB
  clear hS hB
  go_wp2_with fail
  go_ret
  exact ⟨v, rfl, HB.out, HS.out⟩

theorem drewN_below (w : World) (q : Nat) : Below w.heap.size w (w.drewN q) := ⟨rfl, rfl, rfl, Nat.le_refl _, fun _ _ => rfl⟩
theorem sameT_self (w : World) (G G' : Nat → Prop) (va vb : Value) (xs : List ByteArray) (ha : Sl w G 1 strc va xs) (hb : Sl w G' 1 strc vb xs) :
    Calls Tryz.prog 32 #[va, vb] w fun e w' => e = .returned (.bool true) ∧ Below w.heap.size w w' :=
  (Idx.sameT_any w G G' va vb xs xs ha hb).mono fun e w' ⟨h1, q, h2⟩ => by subst h2; exact ⟨by rw [h1, decide_eq_true rfl], drewN_below w q⟩
theorem sameI_self (w : World) (G G' : Nat → Prop) (va vb : Value) (xs : List Int) (ha : Sl w G 1 intc va xs) (hb : Sl w G' 1 intc vb xs) :
    Calls Tryz.prog 34 #[va, vb] w fun e w' => e = .returned (.bool true) ∧ Below w.heap.size w w' :=
  (Ded.sameInts_any w G G' va vb xs xs ha hb).mono fun e w' ⟨h1, q, h2⟩ => by subst h2; exact ⟨by rw [h1, decide_eq_true rfl], drewN_below w q⟩
theorem sameE_self (w : World) (G G' : Nat → Prop) (va vb : Value) (xs : List Ev) (ha : Sl w G 2 evc va xs) (hb : Sl w G' 2 evc vb xs) :
    Calls Tryz.prog 39 #[va, vb] w fun e w' => e = .returned (.bool true) ∧ Below w.heap.size w w' :=
  (Idx.same_any w G G' va vb xs xs ha hb).mono fun e w' ⟨h1, q, h2⟩ => by subst h2; exact ⟨by rw [h1, decide_eq_true rfl], drewN_below w q⟩

set_option maxRecDepth 10000 in
set_option maxHeartbeats 4000000 in
theorem alike_any (w : World) (p m : Nat) (s : St) (F W M : Nat → Prop) (h1 : StAt w p s F W) (h2 : MtAt w m s M) (hL : s.L.length ≤ 1000000) (hTl : s.T.length ≤ 1000000) (hst : ∀ o ∈ s.L, o.stream.size ≤ 1000000) (hses : Ded.OkL s.T) :
    Calls Tryz.prog 13 #[.pointer (some ⟨p, 0, none⟩), .pointer (some ⟨m, 0, none⟩)] w fun e w' => e = .returned (.bool true) ∧ Below w.heap.size w w' := by
  obtain ⟨x, t, FX, FT, hm⟩ := h2
  obtain ⟨js, hj1, hj2⟩ := sess_of s.T
  have HP := Lib.hid h1
  have HM := Lib.hid hm
  have HJ1 := Lib.hid hj1
  have HJ2 := Lib.hid hj2
  have HST := Lib.hid hst
  have HSE := Lib.hid hses
  clear h1 hm hj1 hj2 hst hses
  have hne := neqOc
  have hmx := @run_gmax Tryz.prog
  go_enter Tryz.func13, Tryz.ntmps13
  go_wp2_with fail
  refine (streams_any w p s F W HP.out (by omega)).mono ?_
  rintro e wa ⟨vn, ks, rfl, hKs, hBa, hSn⟩
  obtain ⟨An, cn, rfl, hn1, hn2⟩ := hSn.shape
  unfold maxLen at hn2
  have hkl := Idx.streams_len hKs
  have hks : Idx.namesOf s.L = ks := Idx.rising_ext (Idx.namesOf_spec s.L).1 hKs.1 (fun z => by rw [(Idx.namesOf_spec s.L).2, hKs.2])
  have HKS := Lib.hid hKs
  have HSN := Lib.hid hSn
  have HBa := Lib.hid hBa
  have HPa := Lib.hid (HP.out.fresh hBa)
  have HMa := Lib.hid (HM.out.fresh hBa)
  have a0 := HMa.out.c0
  have a1 := HMa.out.c1
  have a2 := HMa.out.c2
  have hml : m < wa.heap.size := HMa.out.lt _ HMa.out.fm
  have HNM := Lib.hid (fun wz (hz : Below wa.heap.size wa wz) => Idx.rnames_any wz x s.L FX (HMa.out.fresh hz).idx (by omega))
  rw [hks] at HNM
  have HSS := Lib.hid (fun wz (hz : Below wa.heap.size wa wz) => ssess_any wz p s F W (HPa.out.fresh hz) (by omega) HJ1.out HJ2.out)
  have HRS : Hid (∀ wz, Below wa.heap.size wa wz → Calls Tryz.prog 36 #[.pointer (some ⟨t, 0, none⟩)] wz fun e w' => ∃ v, e = .returned v ∧ Sl w' (fun b => wz.heap.size ≤ b) 1 intc v js ∧ Below wz.heap.size wz w') := Lib.hid (fun wz hz => by
    refine (Ded.rsess_any wz t s.T FT (HMa.out.fresh hz).tab hTl).mono ?_
    rintro e w' ⟨v, ks', rfl, q1, q2, q3, q4⟩
    obtain rfl : ks' = js := Ded.rising_one q1 HJ1.out (fun z => by rw [q2, HJ2.out])
    exact ⟨v, rfl, (q3.sl (fun _ => rfl)).mono (fun b _ hb => (q3.lt b hb).1), q4⟩)
  have HAP := Lib.hid (fun wz (hz : Below wa.heap.size wa wz) => applied_any wz p s F W (HPa.out.fresh hz))
  clear hKs hSn hBa hks
  go_upto_region 2 with (fail)
  go_cut [45] (fun s45 wx => s45 = .bool false ∧ Below wa.heap.size wa wx)
  case first =>
    have hWd : Below wa.heap.size wa wa.drew := ⟨rfl, rfl, rfl, Nat.le_refl _, fun _ _ => rfl⟩
    clear hn1 hn2 hkl
    go_wp2_with fail
    go_region_held3 (fun z => z.cell? ⟨m, 0, none⟩ = some (.pointer (some ⟨x, 0, none⟩)) ∧ z.cell? ⟨m, 1, none⟩ = some (.pointer (some ⟨t, 0, none⟩)) ∧ z.cell? ⟨m, 2, none⟩ = some (.int .i64 s.ap))
      (first | exact ⟨f0, f1, f2⟩ | exact ⟨e0, e1, e2⟩ | exact ⟨d0, d1, d2⟩ | exact ⟨c0, c1, c2⟩ | exact ⟨b0, b1, b2⟩ | exact ⟨a0, a1, a2⟩)
      (first
        | (go_at_call 33
           refine (HNM.out _ hWd).mono ?_
           rintro e wb ⟨v, rfl, hBb, hSb⟩
           obtain ⟨Ab, cb, rfl, _, _⟩ := hSb.shape
           have hbb : Below wa.heap.size wa wb := hWd.trans (hBb.mono hWd.size)
           have HBb := Lib.hid hbb
           have HSb := Lib.hid hSb
           have b0 := (hbb.cell (p := ⟨m, 0, none⟩) hml).trans a0
           have b1 := (hbb.cell (p := ⟨m, 1, none⟩) hml).trans a1
           have b2 := (hbb.cell (p := ⟨m, 2, none⟩) hml).trans a2
           clear hBb hSb hbb)
        | (go_at_call 32
           refine (sameT_self _ _ _ _ _ _ (HSN.out.fresh HBb.out) HSb.out).mono ?_
           rintro e wc ⟨rfl, hBc⟩
           have hbb : Below wa.heap.size wa wc := HBb.out.trans (hBc.mono HBb.out.size)
           have HBc := Lib.hid hbb
           have c0 := (hbb.cell (p := ⟨m, 0, none⟩) hml).trans a0
           have c1 := (hbb.cell (p := ⟨m, 1, none⟩) hml).trans a1
           have c2 := (hbb.cell (p := ⟨m, 2, none⟩) hml).trans a2
           clear hBc hbb)
        | (go_at_call 14
           refine (HAP.out _ HBc.out).mono ?_
           rintro e wz ⟨rfl, rfl⟩)
        | (go_at_call 35
           refine (HSS.out _ (by first | exact HBe.out | exact HBc.out)).mono ?_
           rintro e wd ⟨v, rfl, _, hSd, hBd⟩
           obtain ⟨Ad, cd, rfl, _, _⟩ := hSd.shape
           try (have SQ := Lib.hid (SQ.out.fresh hBd))
           have hbb : Below wa.heap.size wa wd := by first | exact HBe.out.trans (hBd.mono HBe.out.size) | exact HBc.out.trans (hBd.mono HBc.out.size)
           have HBd := Lib.hid hbb
           have SP := Lib.hid hSd
           have d0 := (hbb.cell (p := ⟨m, 0, none⟩) hml).trans a0
           have d1 := (hbb.cell (p := ⟨m, 1, none⟩) hml).trans a1
           have d2 := (hbb.cell (p := ⟨m, 2, none⟩) hml).trans a2
           clear hBd hSd hbb)
        | (go_at_call 36
           refine (HRS.out _ (by first | exact HBd.out | exact HBc.out)).mono ?_
           rintro e we ⟨v, rfl, hSe, hBe⟩
           obtain ⟨Ae, ce, rfl, _, _⟩ := hSe.shape
           try (have SP := Lib.hid (SP.out.fresh hBe))
           have hbb : Below wa.heap.size wa we := by first | exact HBd.out.trans (hBe.mono HBd.out.size) | exact HBc.out.trans (hBe.mono HBc.out.size)
           have HBe := Lib.hid hbb
           have SQ := Lib.hid hSe
           have e0 := (hbb.cell (p := ⟨m, 0, none⟩) hml).trans a0
           have e1 := (hbb.cell (p := ⟨m, 1, none⟩) hml).trans a1
           have e2 := (hbb.cell (p := ⟨m, 2, none⟩) hml).trans a2
           clear hBe hSe hbb)
        | (go_at_call 34
           refine (sameI_self _ _ _ _ _ _ SP.out SQ.out).mono ?_
           rintro e wf ⟨rfl, hBf⟩
           have hbb : Below wa.heap.size wa wf := by first | exact HBe.out.trans (hBf.mono HBe.out.size) | exact HBd.out.trans (hBf.mono HBd.out.size)
           have HBf := Lib.hid hbb
           have f0 := (hbb.cell (p := ⟨m, 0, none⟩) hml).trans a0
           have f1 := (hbb.cell (p := ⟨m, 1, none⟩) hml).trans a1
           have f2 := (hbb.cell (p := ⟨m, 2, none⟩) hml).trans a2
           clear hBf hbb))
    all_goals go_wp2_with fail
    all_goals go_meet
    all_goals exact ⟨rfl, HBf.out⟩
  case rest =>
    obtain ⟨rfl, hBc⟩ := hcut
    obtain ⟨w1, rfl⟩ : ∃ z, z = wc := ⟨_, rfl⟩
    have HB1 := Lib.hid hBc
    have HSN1 := Lib.hid (HSN.out.fresh hBc)
    clear hBc HNM HRS HAP
    go_wp2_with fail
    go_loopw [6] (fun i wr => ∃ k : Nat, k ≤ ks.length ∧ i = .int .i64 k ∧ Below w1.heap.size w1 wr) (fun i _ => ks.length - (RowKit.intOf i).toNat)
    case atStart => exact ⟨0, Nat.zero_le _, rfl, Below.refl _ _⟩
    case round =>
      obtain ⟨k, hk, rfl, hBr⟩ := hrel
      obtain ⟨w2, rfl⟩ : ∃ z, z = wr := ⟨_, rfl⟩
      have HBr := Lib.hid hBr
      have hb2 : Below wa.heap.size wa w2 := HB1.out.trans (hBr.mono HB1.out.size)
      have HB2 := Lib.hid hb2
      have HP2 := Lib.hid (HPa.out.fresh hb2)
      have HM2 := Lib.hid (HMa.out.fresh hb2)
      have n0 := (hb2.cell (p := ⟨m, 0, none⟩) hml).trans a0
      have n1 := (hb2.cell (p := ⟨m, 1, none⟩) hml).trans a1
      by_cases hlt : k < ks.length
      · obtain ⟨bn, on, rfl, _, hbn, hxx⟩ := (HSN1.out.fresh hBr).cell_ hlt
        have x0 := hxx 0 _ rfl
        simp only [Nat.add_zero, Nat.mul_one] at x0
        have hsz : ks[k].size ≤ maxLen := by have := Idx.streams_size HKS.out HST.out ks[k] (List.getElem_mem hlt); unfold maxLen; omega
        obtain ⟨st, hstt⟩ : ∃ z, ks[k] = z := ⟨_, rfl⟩
        rw [hstt] at x0 hsz
        clear hxx hb2 hBr hstt
        have hV := fun wz (hz : Below w2.heap.size w2 wz) => sversion_any wz p s F W (HP2.out.fresh hz) st hsz
        have hRV := fun wz (hz : Below w2.heap.size w2 wz) => Idx.rversion_any wz x s.L FX (HM2.out.fresh hz).idx st (by omega)
        have hPo := fun wz (hz : Below w2.heap.size w2 wz) (k : Int) => spos_any wz p s F W (HP2.out.fresh hz) st hsz k (by omega)
        have hRPo := fun wz (hz : Below w2.heap.size w2 wz) (k : Int) => Idx.rpos_any wz x s.L FX (HM2.out.fresh hz).idx st k (by omega)
        have hRd := fun wz (hz : Below w2.heap.size w2 wz) (k : Int) => sread_any wz p s F W (HP2.out.fresh hz) st hsz k (by omega)
        have hRRd := fun wz (hz : Below w2.heap.size w2 wz) (k : Int) => mread_any wz m s M ⟨x, t, FX, FT, HM2.out.fresh hz⟩ st k (by omega)
        have hle := Idx.ofS_le s.L st
        obtain ⟨N, hN⟩ : ∃ N, (Idx.ofS s.L st).length = N := ⟨_, rfl⟩
        rw [hN] at hV hRV hle
        obtain ⟨xs, hxs⟩ : ∃ xs, (((Idx.ofS s.L st).drop (max (gmax 1 ((N : Int) - 9)) 1 - 1).toNat).take 16).map Idx.Kp.e = xs := ⟨_, rfl⟩
        have hRd := fun wz hz => hRd wz hz (gmax 1 ((N : Int) - 9))
        have hRRd := fun wz hz => hRRd wz hz (gmax 1 ((N : Int) - 9))
        rw [hxs] at hRd hRRd
        obtain ⟨po, hpo⟩ : ∃ po, Idx.posOf (Idx.ofS s.L st) (N : Int) = po := ⟨_, rfl⟩
        have hPo := fun wz hz => hPo wz hz (N : Int)
        have hRPo := fun wz hz => hRPo wz hz (N : Int)
        rw [hpo] at hPo hRPo
        have HV := Lib.hid hV
        have HRV := Lib.hid hRV
        have HPo := Lib.hid hPo
        have HRPo := Lib.hid hRPo
        have HRd := Lib.hid hRd
        have HRRd := Lib.hid hRRd
        clear hV hRV hPo hRPo hRd hRRd hN hxs hpo
        go_wp2_with fail
        refine (HV.out w2 (Below.refl _ _)).mono ?_
        rintro e wz ⟨rfl, rfl⟩
        have hwn : IntKind.i64.wrap ((N : Int) - 9) = (N : Int) - 9 := IntWalk.i64_in _ (by omega)
        go_upto_region 8 with (fail)
        go_cut [110] (fun s110 wx => s110 = .bool false ∧ Below w2.heap.size w2 wx)
        case first =>
          as_aux_lemma =>
          have hWd : Below w2.heap.size w2 w2.drew := ⟨rfl, rfl, rfl, Nat.le_refl _, fun _ _ => rfl⟩
          have hml2 : m < w2.heap.size := HM2.out.lt _ HM2.out.fm
          clear a0 a1 a2 n1
          go_wp2_with fail
          go_region_held3 (fun z => z.cell? ⟨m, 0, none⟩ = some (.pointer (some ⟨x, 0, none⟩)) ∧ z.cell? ⟨bn, on + k, none⟩ = some (.string st))
            (first | exact ⟨e0, e1⟩ | exact ⟨d0, d1⟩ | exact ⟨c0, c1⟩ | exact ⟨n0, x0⟩)
            (first
              | (go_at_call 38
                 refine (HRV.out _ hWd).mono ?_
                 rintro e wz ⟨rfl, rfl⟩)
              | (go_at_call 40
                 refine (HRd.out _ (by first | exact HBd.out | exact hWd)).mono ?_
                 rintro e wc ⟨v, rfl, hBc, hSc⟩
                 obtain ⟨Ac, cc, rfl, _, _⟩ := hSc.shape
                 try (have SQ := Lib.hid (SQ.out.fresh hBc))
                 have hbb : Below w2.heap.size w2 wc := by first | exact HBd.out.trans (hBc.mono HBd.out.size) | exact hWd.trans (hBc.mono hWd.size)
                 have HBc := Lib.hid hbb
                 have SP := Lib.hid hSc
                 have c0 := (hbb.cell (p := ⟨m, 0, none⟩) hml2).trans n0
                 have c1 := (hbb.cell (p := ⟨bn, on + k, none⟩) hbn).trans x0
                 clear hBc hSc hbb)
              | (go_at_call 41
                 refine (HRRd.out _ (by first | exact HBc.out | exact hWd)).mono ?_
                 rintro e wd ⟨v, rfl, hBd, hSd⟩
                 obtain ⟨Ad, cd, rfl, _, _⟩ := hSd.shape
                 try (have SP := Lib.hid (SP.out.fresh hBd))
                 have hbb : Below w2.heap.size w2 wd := by first | exact HBc.out.trans (hBd.mono HBc.out.size) | exact hWd.trans (hBd.mono hWd.size)
                 have HBd := Lib.hid hbb
                 have SQ := Lib.hid hSd
                 have d0 := (hbb.cell (p := ⟨m, 0, none⟩) hml2).trans n0
                 have d1 := (hbb.cell (p := ⟨bn, on + k, none⟩) hbn).trans x0
                 clear hBd hSd hbb)
              | (go_at_call 39
                 refine (sameE_self _ _ _ _ _ _ SP.out SQ.out).mono ?_
                 rintro e we ⟨rfl, hBe⟩
                 have hbb : Below w2.heap.size w2 we := by first | exact HBd.out.trans (hBe.mono HBd.out.size) | exact HBc.out.trans (hBe.mono HBc.out.size)
                 have HBe := Lib.hid hbb
                 have e0 := (hbb.cell (p := ⟨m, 0, none⟩) hml2).trans n0
                 have e1 := (hbb.cell (p := ⟨bn, on + k, none⟩) hbn).trans x0
                 clear hBe hbb)
              | (go_at_call 42
                 refine (HPo.out _ HBe.out).mono ?_
                 rintro e wz ⟨rfl, rfl⟩)
              | (go_at_call 43
                 refine (HRPo.out _ HBe.out).mono ?_
                 rintro e wz ⟨rfl, rfl⟩))
          all_goals go_wp2_with fail
          all_goals go_meet
          all_goals exact ⟨rfl, HBe.out⟩
        case rest =>
          obtain ⟨rfl, hBc⟩ := hcut
          have HBc := Lib.hid (HBr.out.trans (hBc.mono HBr.out.size))
          clear hBc
          go_wp2_with fail
          go_roundw
          case rel => exact ⟨k + 1, hlt, by go_num, HBc.out⟩
          case measure => simp [RowKit.intOf]; omega
      · have hkd : k = ks.length := by omega
        subst hkd
        obtain ⟨w3, rfl⟩ : ∃ z, z = w2 := ⟨_, rfl⟩
        clear hBr hb2 hlt hk a0 a1 a2
        go_wp2_with fail
        go_loopw [8] (fun i wr => ∃ k : Nat, k ≤ js.length ∧ i = .int .i64 k ∧ Below w3.heap.size w3 wr) (fun i _ => js.length - (RowKit.intOf i).toNat)
        case atStart => exact ⟨0, Nat.zero_le _, rfl, Below.refl _ _⟩
        case round =>
          obtain ⟨k, hk, rfl, hBr⟩ := hrel
          obtain ⟨w4, rfl⟩ : ∃ z, z = wr := ⟨_, rfl⟩
          have HBr := Lib.hid hBr
          have HB4 := Lib.hid (HB2.out.trans (hBr.mono HB2.out.size))
          have m1 := (hBr.cell (p := ⟨m, 1, none⟩) (HM2.out.lt _ HM2.out.fm)).trans n1
          clear hBr
          go_wp2_with fail
          refine (HSS.out w4 HB4.out).mono ?_
          rintro e w5 ⟨v5, rfl, hjl, hS5, hB5⟩
          obtain ⟨A5, c5, rfl, h51, h52⟩ := hS5.shape
          unfold maxLen at h52
          have HB5 := Lib.hid (HB4.out.trans (hB5.mono HB4.out.size))
          have HBr5 := Lib.hid (HBr.out.trans (hB5.mono HBr.out.size))
          have m1 := (hB5.cell (p := ⟨m, 1, none⟩) (World.block_lt_of_cell? _ _ m1)).trans m1
          clear hS5 hB5 h51 h52
          by_cases hlt : k < js.length
          · have dlt : decide ((k : Int) < (js.length : Int)) = true := decide_eq_true (by omega)
            go_wp2_with fail
            refine (HSS.out w5 HB5.out).mono ?_
            rintro e w6 ⟨v6, rfl, _, hS6, hB6⟩
            obtain ⟨A6, c6, rfl, h61, h62⟩ := hS6.shape
            unfold maxLen at h62
            obtain ⟨b6, o6, rfl, _, _, hxx⟩ := hS6.cell_ hlt
            have x6 := hxx 0 _ rfl
            simp only [Nat.add_zero, Nat.mul_one] at x6
            have hses := (HJ2.out js[k]).1 (List.getElem_mem hlt)
            obtain ⟨ee, hee, hes⟩ := hses
            have hi64 := HSE.out.ses ee hee
            rw [hes] at hi64
            obtain ⟨n, hn⟩ : ∃ z, js[k] = z := ⟨_, rfl⟩
            rw [hn] at x6 hi64
            obtain ⟨qs, hq1, hq2⟩ := seqs_of s.T n
            have HB6 := Lib.hid (HB5.out.trans (hB6.mono HB5.out.size))
            have HBr6 := Lib.hid (HBr5.out.trans (hB6.mono HBr5.out.size))
            have m1 := (hB6.cell (p := ⟨m, 1, none⟩) (World.block_lt_of_cell? _ _ m1)).trans m1
            have HQ1 := Lib.hid hq1
            have HQ2 := Lib.hid hq2
            have HSQ := Lib.hid (fun wz (hz : Below wa.heap.size wa wz) => sseqs_any wz p s F W (HPa.out.fresh hz) (by omega) n ⟨by omega, hi64.2⟩ hq1 hq2)
            have HRQ : Hid (∀ wz, Below wa.heap.size wa wz → Calls Tryz.prog 45 #[.pointer (some ⟨t, 0, none⟩), .int .i64 n] wz fun e w' => ∃ v, e = .returned v ∧ Sl w' (fun b => wz.heap.size ≤ b) 1 intc v qs ∧ Below wz.heap.size wz w') := Lib.hid (fun wz hz => by
              refine (Ded.rseqs_any wz t s.T FT (HMa.out.fresh hz).tab hTl n).mono ?_
              rintro e w' ⟨v, ks', rfl, q1, q2, q3, q4⟩
              obtain rfl : ks' = qs := Ded.rising_one q1 HQ1.out (fun z => by rw [q2, HQ2.out])
              exact ⟨v, rfl, (q3.sl (fun _ => rfl)).mono (fun b _ hb => (q3.lt b hb).1), q4⟩)
            have HI64 := Lib.hid hi64
            clear hxx hee hes hn hq1 hq2 hB6 hS6 h61 h62 hi64
            go_wp2_with fail
            refine (HSQ.out w6 HB6.out).mono ?_
            rintro e w7 ⟨v7, rfl, hql, hS7, hB7⟩
            obtain ⟨A7, c7, rfl, h71, h72⟩ := hS7.shape
            unfold maxLen at h72
            have HB7 := Lib.hid (HB6.out.trans (hB7.mono HB6.out.size))
            have HBr7 := Lib.hid (HBr6.out.trans (hB7.mono HBr6.out.size))
            have m1 := (hB7.cell (p := ⟨m, 1, none⟩) (World.block_lt_of_cell? _ _ m1)).trans m1
            have HS7 := Lib.hid hS7
            clear hS7 hB7 x6
            go_wp2_with fail
            refine (HRQ.out w7 HB7.out).mono ?_
            rintro e w8 ⟨v8, rfl, hS8, hB8⟩
            obtain ⟨A8, c8, rfl, _, _⟩ := hS8.shape
            have HB8 := Lib.hid (HB7.out.trans (hB8.mono HB7.out.size))
            have HBr8 := Lib.hid (HBr7.out.trans (hB8.mono HBr7.out.size))
            have m1 := (hB8.cell (p := ⟨m, 1, none⟩) (World.block_lt_of_cell? _ _ m1)).trans m1
            have HS7 := Lib.hid (HS7.out.fresh hB8)
            have HS8 := Lib.hid hS8
            clear hS8 hB8
            go_wp2_with fail
            refine (sameI_self _ _ _ _ _ _ HS7.out HS8.out).mono ?_
            rintro e w9 ⟨rfl, hB9⟩
            have HB9 := Lib.hid (HB8.out.trans (hB9.mono HB8.out.size))
            have HBr9 := Lib.hid (HBr8.out.trans (hB9.mono HBr8.out.size))
            have m1 := (hB9.cell (p := ⟨m, 1, none⟩) (World.block_lt_of_cell? _ _ m1)).trans m1
            have HS7 := Lib.hid (HS7.out.fresh hB9)
            have HMl : Hid (m < w9.heap.size) := Lib.hid (World.block_lt_of_cell? _ _ m1)
            have M1 := Lib.hid m1
            clear hB9 m1
            go_wp2_with fail
            go_loopw [11] (fun i wr => ∃ j : Nat, j ≤ qs.length ∧ i = .int .i64 j ∧ Below w9.heap.size w9 wr) (fun i _ => qs.length - (RowKit.intOf i).toNat)
            case atStart => exact ⟨0, Nat.zero_le _, rfl, Below.refl _ _⟩
            case round =>
              obtain ⟨j, hj, rfl, hBr⟩ := hrel
              obtain ⟨wA, rfl⟩ : ∃ z, z = wr := ⟨_, rfl⟩
              by_cases hjt : j < qs.length
              · obtain ⟨b7, o7, rfl, _, hb7, hxx⟩ := (HS7.out.fresh hBr).cell_ hjt
                have x7 := hxx 0 _ rfl
                simp only [Nat.add_zero, Nat.mul_one] at x7
                have m1 := (hBr.cell (p := ⟨m, 1, none⟩) HMl.out).trans M1.out
                have hknown := (HQ2.out qs[j]).1 (List.getElem_mem hjt)
                obtain ⟨y, hy⟩ : ∃ z, qs[j] = z := ⟨_, rfl⟩
                rw [hy] at x7 hknown
                have hy64 : Ded.i64 y := by
                  unfold Ded.lookL at hknown
                  split at hknown
                  · simp at hknown
                  · cases hc : Ded.findL s.T n y with
                    | none => rw [hc] at hknown; simp at hknown
                    | some o =>
                      obtain ⟨e, he, _, e2⟩ := find_at hc
                      have := HSE.out.seq e he
                      rw [e2] at this
                      exact ⟨by omega, this.2⟩
                rcases hlk : Ded.lookL s.T n y with ⟨⟨l1, l2, l3, l4⟩, l5⟩
                have hlook := fun wz (hz : Below wa.heap.size wa wz) => slook_any wz p s F W (HPa.out.fresh hz) n y ⟨by have := HI64.out; omega, HI64.out.2⟩ hy64
                have hrl := fun wz (hz : Below wa.heap.size wa wz) => Ded.rlook_any wz t s.T FT (HMa.out.fresh hz).tab n y
                rw [hlk] at hlook hrl
                have HLOOK := Lib.hid hlook
                have HRL := Lib.hid hrl
                have HBA := Lib.hid (HB9.out.trans (hBr.mono HB9.out.size))
                have HBrA := Lib.hid hBr
                clear hxx hknown hy hy64 hlk hlook hrl hBr
                go_wp2_with fail
                refine (HLOOK.out wA HBA.out).mono ?_
                rintro e wB ⟨rfl, hBB⟩
                have hBC : Below wA.heap.size wA (wB.alloc (.cells #[.int .i64 l1, .int .i64 l2, .int .i64 l3, .int .i64 l4] 35)) := hBB.alloc hBB.size _
                have hg1 := heap_alloc_new wB (.cells #[.int .i64 l1, .int .i64 l2, .int .i64 l3, .int .i64 l4] 35)
                go_upto_region 21 with (fail)
                generalize wB.alloc (.cells #[.int .i64 l1, .int .i64 l2, .int .i64 l3, .int .i64 l4] 35) = wC at hBC hg1 ⊢
                have m1 := (hBC.cell (p := ⟨m, 1, none⟩) (World.block_lt_of_cell? _ _ m1)).trans m1
                have x7 := (hBC.cell (p := ⟨b7, o7 + j, none⟩) hb7).trans x7
                have HBC := Lib.hid (HBA.out.trans (hBC.mono HBA.out.size))
                have HBrC := Lib.hid (HBrA.out.trans (hBC.mono HBrA.out.size))
                have HG1 := Lib.hid hg1
                have hm1 := World.block_lt_of_cell? _ _ m1
                have hx7 := World.block_lt_of_cell? _ _ x7
                have hnew0 := World.new_ne wC _ m1
                have hnew1 := World.new_ne wC _ x7
                clear hBB hBC hg1
                go_cut [14, 15] (fun s6 s7 wx => SawCut wC l1 l2 l3 l4 l5 s6 s7 wx)
                case first =>
                  have hWd : Below wC.heap.size wC wC.drew := ⟨rfl, rfl, rfl, Nat.le_refl _, fun _ _ => rfl⟩
                  go_wp2_with fail
                  go_region_held3 (fun z => z.cell? ⟨m, 1, none⟩ = some (.pointer (some ⟨t, 0, none⟩)) ∧ z.cell? ⟨b7, o7 + j, none⟩ = some (.int .i64 y))
                    (first | with_reducible exact ⟨v0, v1⟩ | with_reducible exact ⟨m1, x7⟩ | go_keep)
                    (first
                      | (go_at_call 47
                         refine (HRL.out _ (by first | exact HBC.out.trans (hWd.mono HBC.out.size) | exact HBC.out.trans ((hWd.alloc (Nat.le_refl _) _).mono HBC.out.size))).mono ?_
                         rintro e w5 ⟨he, hB5⟩
                         obtain rfl : e = .returned (.tuple #[.agg #[.int .i64 l1, .int .i64 l2, .int .i64 l3, .int .i64 l4], .int .i64 l5]) := he
                         have hz5 := hB5.size
                         have hB5' : Below wC.heap.size wC w5 := by
                           first
                           | exact hWd.trans hB5
                           | exact (hWd.alloc (Nat.le_refl _) _).trans (hB5.mono (by simp))
                         try
                           (have hblk := (Keeps.of_fresh hB5 (fun _ => False)).grownTo (heap_alloc_new wC.drew (.cells #[.int .i64 0, .int .i64 0, .int .i64 0, .int .i64 0] 35)) id
                            have q0 : w5.cell? ⟨wC.heap.size, 0, none⟩ = some (.int .i64 0) := cell_of_row w5 _ 0 _ _ _ hblk
                            have q1 : w5.cell? ⟨wC.heap.size, 1, none⟩ = some (.int .i64 0) := cell_of_row w5 _ 1 _ _ _ hblk
                            have q2 : w5.cell? ⟨wC.heap.size, 2, none⟩ = some (.int .i64 0) := cell_of_row w5 _ 2 _ _ _ hblk
                            have q3 : w5.cell? ⟨wC.heap.size, 3, none⟩ = some (.int .i64 0) := cell_of_row w5 _ 3 _ _ _ hblk
                            have f0 : w5.frozen? ⟨wC.heap.size, 0, none⟩ = false := frozen_block hblk 0
                            have f1 : w5.frozen? ⟨wC.heap.size, 1, none⟩ = false := frozen_block hblk 1
                            have f2 : w5.frozen? ⟨wC.heap.size, 2, none⟩ = false := frozen_block hblk 2
                            have f3 : w5.frozen? ⟨wC.heap.size, 3, none⟩ = false := frozen_block hblk 3
                            have HBLK := Lib.hid hblk
                            clear hblk)
                         have HB5 := Lib.hid hB5'
                         have v0 := (hB5'.cell (p := ⟨m, 1, none⟩) hm1).trans m1
                         have v1 := (hB5'.cell (p := ⟨b7, o7 + j, none⟩) hx7).trans x7
                         clear hB5 hB5'))
                  all_goals go_wp2_with fail
                  all_goals go_meet
                  · exact SawCut.new HB5.out
                  · exact SawCut.old HB5.out HBLK.out
                case rest =>
                  obtain ⟨g2, rfl, rfl, _, hg2, hBD⟩ := hcut
                  have hg1 := (Keeps.of_fresh hBD (fun _ => False)).grownTo HG1.out id
                  have q0 : wc.cell? ⟨wB.heap.size, 0, none⟩ = some (.int .i64 l1) := cell_of_row wc _ 0 _ _ _ hg1
                  have q1 : wc.cell? ⟨wB.heap.size, 1, none⟩ = some (.int .i64 l2) := cell_of_row wc _ 1 _ _ _ hg1
                  have q2 : wc.cell? ⟨wB.heap.size, 2, none⟩ = some (.int .i64 l3) := cell_of_row wc _ 2 _ _ _ hg1
                  have q3 : wc.cell? ⟨wB.heap.size, 3, none⟩ = some (.int .i64 l4) := cell_of_row wc _ 3 _ _ _ hg1
                  have r0 : wc.cell? ⟨g2, 0, none⟩ = some (.int .i64 l1) := cell_of_row wc _ 0 _ _ _ hg2
                  have r1 : wc.cell? ⟨g2, 1, none⟩ = some (.int .i64 l2) := cell_of_row wc _ 1 _ _ _ hg2
                  have r2 : wc.cell? ⟨g2, 2, none⟩ = some (.int .i64 l3) := cell_of_row wc _ 2 _ _ _ hg2
                  have r3 : wc.cell? ⟨g2, 3, none⟩ = some (.int .i64 l4) := cell_of_row wc _ 3 _ _ _ hg2
                  have hoc := ocNe_self ⟨l1, l2, l3, l4⟩
                  have HBD := Lib.hid (HBrC.out.trans (hBD.mono HBrC.out.size))
                  clear hg1 hg2 hBD m1 x7
                  go_wp2_with fail
                  go_roundw
                  case rel => exact ⟨j + 1, hjt, by go_num, HBD.out⟩
                  case measure => simp [RowKit.intOf]; omega
              · have hjd : j = qs.length := by omega
                subst hjd
                have HBz := Lib.hid (HBr9.out.trans (hBr.mono HBr9.out.size))
                clear hBr
                go_wp2_with fail
                go_roundw
                case rel => exact ⟨k + 1, hlt, by go_num, HBz.out⟩
                case measure => simp [RowKit.intOf]; omega
          · have dlt : decide ((k : Int) < (js.length : Int)) = false := decide_eq_false (by omega)
            go_wp2_with fail
            go_ret
            exact ⟨rfl, HBa.out.trans (HB5.out.mono HBa.out.size)⟩
end Go.Proofs.YtlfhokcjbgpjhaaGreatDoor
