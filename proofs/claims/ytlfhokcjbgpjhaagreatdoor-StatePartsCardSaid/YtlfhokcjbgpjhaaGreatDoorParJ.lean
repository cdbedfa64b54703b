/- StateParts: what the statement's function does: it answers true. Under the tables that utf8 lays. -/
import Derived.Test.YtlfhokcjbgpjhaaGreatDoorStaR
import Derived.Test.YtlfhokcjbgpjhaaGreatDoorStaC
import Derived.Test.YtlfhokcjbgpjhaaGreatDoorStaE
import Derived.Test.YtlfhokcjbgpjhaaGreatDoorIdxQ
import Derived.Test.YtlfhokcjbgpjhaaGreatDoorStaD
import Derived.Test.YtlfhokcjbgpjhaaGreatDoorRecR
import Derived.Test.YtlfhokcjbgpjhaaGreatDoorParM
import Derived.Test.YtlfhokcjbgpjhaaGreatDoorParD
import Derived.Test.YtlfhokcjbgpjhaaGreatDoorTxtR
import Derived.Deep.CutBlock
import Derived.Deep.DeepCutAuto
import Derived.BigQuiet
import Derived.Test.YtlfhokcjbgpjhaaGreatDoorStaA
import Derived.Test.YtlfhokcjbgpjhaaGreatDoorIdxD
import Derived.Test.YtlfhokcjbgpjhaaGreatDoorDedJ
import Derived.Test.YtlfhokcjbgpjhaaGreatDoorParH
/- The statements' helper alike: a state and the document's state that hold the same are alike. Under the stated premises on sizes. -/
namespace Go.Proofs.YtlfhokcjbgpjhaaGreatDoor
open Go.RowKit Go.Bl
attribute [local go_sem ↓] Go.wp_at_zero Go.wp_at_succ

/-! ### rising lists -/
def insI (x : Int) : List Int → List Int
  | [] => [x]
  | y :: ys => if x < y then x :: y :: ys else if x = y then y :: ys else y :: insI x ys
theorem insI_mem (x z : Int) : ∀ ks : List Int, z ∈ insI x ks ↔ z = x ∨ z ∈ ks
  | [] => by simp [insI]
  | y :: ys => by
    unfold insI
    split
    · simp
    · split
      · rename_i h; subst h; simp
      · rw [List.mem_cons, insI_mem x z ys, List.mem_cons]
        constructor
        · rintro (h | h | h) <;> simp [h]
        · rintro (h | h | h) <;> simp [h]
theorem insI_rise (x : Int) : ∀ {ks : List Int}, ks.Pairwise (· < ·) → (insI x ks).Pairwise (· < ·)
  | [], _ => by simp [insI]
  | y :: ys, h => by
    obtain ⟨h1, h2⟩ := List.pairwise_cons.1 h
    unfold insI
    split
    · rename_i hxy
      refine List.pairwise_cons.2 ⟨fun z hz => ?_, h⟩
      rcases List.mem_cons.1 hz with e | e
      · omega
      · have := h1 z e; omega
    · split
      · exact h
      · refine List.pairwise_cons.2 ⟨fun z hz => ?_, insI_rise x h2⟩
        rcases (insI_mem x z ys).1 hz with e | e
        · omega
        · exact h1 z e
theorem rise_of : ∀ l : List Int, ∃ ks : List Int, ks.Pairwise (· < ·) ∧ ∀ x, x ∈ ks ↔ x ∈ l
  | [] => ⟨[], List.Pairwise.nil, fun _ => Iff.rfl⟩
  | y :: l => by
    obtain ⟨ks, h1, h2⟩ := rise_of l
    exact ⟨insI y ks, insI_rise y h1, fun x => by rw [insI_mem, List.mem_cons, h2]⟩
theorem sess_of (L : List Ded.En) : ∃ ks : List Int, ks.Pairwise (· < ·) ∧ ∀ x, x ∈ ks ↔ ∃ e ∈ L, e.ses = x := by
  obtain ⟨ks, h1, h2⟩ := rise_of (L.map Ded.En.ses)
  exact ⟨ks, h1, fun x => by rw [h2, List.mem_map]⟩
theorem seqs_of (L : List Ded.En) (x : Int) : ∃ ks : List Int, ks.Pairwise (· < ·) ∧ ∀ y, y ∈ ks ↔ (Ded.lookL L x y).2 = 1 := by
  obtain ⟨ks, h1, h2⟩ := rise_of ((L.filter fun e => decide ((Ded.lookL L x e.seq).2 = 1) && decide (e.ses = x)).map Ded.En.seq)
  refine ⟨ks, h1, fun y => ?_⟩
  rw [h2, List.mem_map]
  constructor
  · rintro ⟨e, he, rfl⟩
    have := (List.mem_filter.1 he).2
    simp only [Bool.and_eq_true, decide_eq_true_eq] at this
    exact this.1
  · intro hy
    have hf : ∃ o, Ded.findL L x y = some o := by
      unfold Ded.lookL at hy
      split at hy
      · simp at hy
      · cases hc : Ded.findL L x y with
        | none => rw [hc] at hy; simp at hy
        | some o => exact ⟨o, rfl⟩
    obtain ⟨o, ho⟩ := hf
    obtain ⟨e, he, e1, e2⟩ := find_at ho
    exact ⟨e, List.mem_filter.2 ⟨he, by rw [e2]; simp [hy, e1]⟩, e2⟩

/-! ### the two states' readers -/
section
variable (w : World) (p : Nat) (s : St) (F W : Nat → Prop) (h : StAt w p s F W)
include h
theorem ssess_any (hL : s.T.length ≤ 1073741824) {ks : List Int} (hk : ks.Pairwise (· < ·)) (hm : ∀ x, x ∈ ks ↔ ∃ e ∈ s.T, e.ses = x) : Calls Tryz.prog 35 #[.pointer (some ⟨p, 0, none⟩)] w fun e w' => ∃ v, e = .returned v ∧ ks.length ≤ s.T.length ∧ Sl w' (fun b => w.heap.size ≤ b) 1 intc v ks ∧ Below w.heap.size w w' := by
  obtain ⟨px, pt, FX, FT, GT, h⟩ := h
  have c1 := h.c1
  have HI := Lib.hid h.tab
  clear h
  go_enter Tryz.func35, Tryz.ntmps35
  go_wp2_with fail
  refine (Ded.sess_any w pt s.T FT GT HI.out hL).mono ?_
  rintro e w2 ⟨v, js, rfl, hj, hjm, hjl, hS, hB⟩
  obtain rfl : js = ks := Ded.rising_one hj hk (fun z => by rw [hjm, hm])
  have HS := Lib.hid hS
  have HB := Lib.hid hB
  have HJ := Lib.hid hjl
  clear hS hB hjm hjl hm
  go_wp2_with fail
  go_ret
  exact ⟨v, rfl, HJ.out, HS.out, HB.out⟩
theorem sseqs_any (hL : s.T.length ≤ 1073741824) (x : Int) (hx : Ded.i64 x) {ks : List Int} (hk : ks.Pairwise (· < ·)) (hm : ∀ y, y ∈ ks ↔ (Ded.lookL s.T x y).2 = 1) : Calls Tryz.prog 44 #[.pointer (some ⟨p, 0, none⟩), .int .i64 x] w fun e w' => ∃ v, e = .returned v ∧ ks.length ≤ s.T.length ∧ Sl w' (fun b => w.heap.size ≤ b) 1 intc v ks ∧ Below w.heap.size w w' := by
  obtain ⟨px, pt, FX, FT, GT, h⟩ := h
  have c1 := h.c1
  have HI := Lib.hid h.tab
  clear h
  go_enter Tryz.func44, Tryz.ntmps44
  go_wp2_with fail
  refine (Ded.seqs_any w pt s.T FT GT HI.out hL x hx).mono ?_
  rintro e w2 ⟨v, js, rfl, hj, hjm, hjl, hS, hB⟩
  obtain rfl : js = ks := Ded.rising_one hj hk (fun z => by rw [hjm, hm])
  have HS := Lib.hid hS
  have HB := Lib.hid hB
  have HJ := Lib.hid hjl
  clear hS hB hjm hjl hm
  go_wp2_with fail
  go_ret
  exact ⟨v, rfl, HJ.out, HS.out, HB.out⟩
end
theorem mread_any (w : World) (m : Nat) (s : St) (F : Nat → Prop) (h : MtAt w m s F) (n : ByteArray) (k : Int) (hL : s.L.length ≤ 1073741824) : Calls Tryz.prog 41 #[.pointer (some ⟨m, 0, none⟩), .string n, .int .i64 k] w fun e w' => ∃ v, e = .returned v ∧ Below w.heap.size w w' ∧
      Sl w' (fun b => w.heap.size ≤ b) 2 evc v ((((Idx.ofS s.L n).drop (max k 1 - 1).toNat).take 16).map Idx.Kp.e) := by
  obtain ⟨x, t, FX, FT, h⟩ := h
  have c0 := h.c0
  have HI := Lib.hid h.idx
  clear h
  go_enter Tryz.func41, Tryz.ntmps41
  go_wp2_with fail
  refine (Idx.rrange_any w x s.L FX HI.out n k 16 hL).mono ?_
  rintro e w2 ⟨v, rfl, hB, hS⟩
  have HS := Lib.hid hS
  have HB := Lib.hid hB
  clear hS hB
  go_wp2_with fail
  go_ret
  exact ⟨v, rfl, HB.out, HS.out⟩

theorem drewN_below (w : World) (q : Nat) : Below w.heap.size w (w.drewN q) := ⟨rfl, rfl, rfl, Nat.le_refl _, fun _ _ => rfl⟩
theorem sameT_self (w : World) (G G' : Nat → Prop) (va vb : Value) (xs : List ByteArray) (ha : Sl w G 1 strc va xs) (hb : Sl w G' 1 strc vb xs) :
    Calls Tryz.prog 32 #[va, vb] w fun e w' => e = .returned (.bool true) ∧ Below w.heap.size w w' :=
  (Idx.sameT_any w G G' va vb xs xs ha hb).mono fun e w' ⟨h1, q, h2⟩ => by subst h2; exact ⟨by rw [h1, decide_eq_true rfl], drewN_below w q⟩
theorem sameI_self (w : World) (G G' : Nat → Prop) (va vb : Value) (xs : List Int) (ha : Sl w G 1 intc va xs) (hb : Sl w G' 1 intc vb xs) :
    Calls Tryz.prog 34 #[va, vb] w fun e w' => e = .returned (.bool true) ∧ Below w.heap.size w w' :=
  (Ded.sameInts_any w G G' va vb xs xs ha hb).mono fun e w' ⟨h1, q, h2⟩ => by subst h2; exact ⟨by rw [h1, decide_eq_true rfl], drewN_below w q⟩
theorem sameE_self (w : World) (G G' : Nat → Prop) (va vb : Value) (xs : List Ev) (ha : Sl w G 2 evc va xs) (hb : Sl w G' 2 evc vb xs) :
    Calls Tryz.prog 39 #[va, vb] w fun e w' => e = .returned (.bool true) ∧ Below w.heap.size w w' :=
  (Idx.same_any w G G' va vb xs xs ha hb).mono fun e w' ⟨h1, q, h2⟩ => by subst h2; exact ⟨by rw [h1, decide_eq_true rfl], drewN_below w q⟩

set_option maxRecDepth 10000 in
set_option maxHeartbeats 4000000 in
theorem alike_any (w : World) (p m : Nat) (s : St) (F W M : Nat → Prop) (h1 : StAt w p s F W) (h2 : MtAt w m s M) (hL : s.L.length ≤ 1000000) (hTl : s.T.length ≤ 1000000) (hst : ∀ o ∈ s.L, o.stream.size ≤ 1000000) (hses : Ded.OkL s.T) :
    Calls Tryz.prog 13 #[.pointer (some ⟨p, 0, none⟩), .pointer (some ⟨m, 0, none⟩)] w fun e w' => e = .returned (.bool true) ∧ Below w.heap.size w w' := by
  obtain ⟨x, t, FX, FT, hm⟩ := h2
  obtain ⟨js, hj1, hj2⟩ := sess_of s.T
  have HP := Lib.hid h1
  have HM := Lib.hid hm
  have HJ1 := Lib.hid hj1
  have HJ2 := Lib.hid hj2
  have HST := Lib.hid hst
  have HSE := Lib.hid hses
  clear h1 hm hj1 hj2 hst hses
  have hne := neqOc
  have hmx := @run_gmax Tryz.prog
  go_enter Tryz.func13, Tryz.ntmps13
  go_wp2_with fail
  refine (streams_any w p s F W HP.out (by omega)).mono ?_
  rintro e wa ⟨vn, ks, rfl, hKs, hBa, hSn⟩
  obtain ⟨An, cn, rfl, hn1, hn2⟩ := hSn.shape
  unfold maxLen at hn2
  have hkl := Idx.streams_len hKs
  have hks : Idx.namesOf s.L = ks := Idx.rising_ext (Idx.namesOf_spec s.L).1 hKs.1 (fun z => by rw [(Idx.namesOf_spec s.L).2, hKs.2])
  have HKS := Lib.hid hKs
  have HSN := Lib.hid hSn
  have HBa := Lib.hid hBa
  have HPa := Lib.hid (HP.out.fresh hBa)
  have HMa := Lib.hid (HM.out.fresh hBa)
  have a0 := HMa.out.c0
  have a1 := HMa.out.c1
  have a2 := HMa.out.c2
  have hml : m < wa.heap.size := HMa.out.lt _ HMa.out.fm
  have HNM := Lib.hid (fun wz (hz : Below wa.heap.size wa wz) => Idx.rnames_any wz x s.L FX (HMa.out.fresh hz).idx (by omega))
  rw [hks] at HNM
  have HSS := Lib.hid (fun wz (hz : Below wa.heap.size wa wz) => ssess_any wz p s F W (HPa.out.fresh hz) (by omega) HJ1.out HJ2.out)
  have HRS : Hid (∀ wz, Below wa.heap.size wa wz → Calls Tryz.prog 36 #[.pointer (some ⟨t, 0, none⟩)] wz fun e w' => ∃ v, e = .returned v ∧ Sl w' (fun b => wz.heap.size ≤ b) 1 intc v js ∧ Below wz.heap.size wz w') := Lib.hid (fun wz hz => by
    refine (Ded.rsess_any wz t s.T FT (HMa.out.fresh hz).tab hTl).mono ?_
    rintro e w' ⟨v, ks', rfl, q1, q2, q3, q4⟩
    obtain rfl : ks' = js := Ded.rising_one q1 HJ1.out (fun z => by rw [q2, HJ2.out])
    exact ⟨v, rfl, (q3.sl (fun _ => rfl)).mono (fun b _ hb => (q3.lt b hb).1), q4⟩)
  have HAP := Lib.hid (fun wz (hz : Below wa.heap.size wa wz) => applied_any wz p s F W (HPa.out.fresh hz))
  clear hKs hSn hBa hks
  go_upto_region 2 with (fail)
  go_cut [45] (fun s45 wx => s45 = .bool false ∧ Below wa.heap.size wa wx)
  case first =>
    have hWd : Below wa.heap.size wa wa.drew := ⟨rfl, rfl, rfl, Nat.le_refl _, fun _ _ => rfl⟩
    clear hn1 hn2 hkl
    go_wp2_with fail
    go_region_held3 (fun z => z.cell? ⟨m, 0, none⟩ = some (.pointer (some ⟨x, 0, none⟩)) ∧ z.cell? ⟨m, 1, none⟩ = some (.pointer (some ⟨t, 0, none⟩)) ∧ z.cell? ⟨m, 2, none⟩ = some (.int .i64 s.ap))
      (first | exact ⟨f0, f1, f2⟩ | exact ⟨e0, e1, e2⟩ | exact ⟨d0, d1, d2⟩ | exact ⟨c0, c1, c2⟩ | exact ⟨b0, b1, b2⟩ | exact ⟨a0, a1, a2⟩)
      (first
        | (go_at_call 33
           refine (HNM.out _ hWd).mono ?_
           rintro e wb ⟨v, rfl, hBb, hSb⟩
           obtain ⟨Ab, cb, rfl, _, _⟩ := hSb.shape
           have hbb : Below wa.heap.size wa wb := hWd.trans (hBb.mono hWd.size)
           have HBb := Lib.hid hbb
           have HSb := Lib.hid hSb
           have b0 := (hbb.cell (p := ⟨m, 0, none⟩) hml).trans a0
           have b1 := (hbb.cell (p := ⟨m, 1, none⟩) hml).trans a1
           have b2 := (hbb.cell (p := ⟨m, 2, none⟩) hml).trans a2
           clear hBb hSb hbb)
        | (go_at_call 32
           refine (sameT_self _ _ _ _ _ _ (HSN.out.fresh HBb.out) HSb.out).mono ?_
           rintro e wc ⟨rfl, hBc⟩
           have hbb : Below wa.heap.size wa wc := HBb.out.trans (hBc.mono HBb.out.size)
           have HBc := Lib.hid hbb
           have c0 := (hbb.cell (p := ⟨m, 0, none⟩) hml).trans a0
           have c1 := (hbb.cell (p := ⟨m, 1, none⟩) hml).trans a1
           have c2 := (hbb.cell (p := ⟨m, 2, none⟩) hml).trans a2
           clear hBc hbb)
        | (go_at_call 14
           refine (HAP.out _ HBc.out).mono ?_
           rintro e wz ⟨rfl, rfl⟩)
        | (go_at_call 35
           refine (HSS.out _ (by first | exact HBe.out | exact HBc.out)).mono ?_
           rintro e wd ⟨v, rfl, _, hSd, hBd⟩
           obtain ⟨Ad, cd, rfl, _, _⟩ := hSd.shape
           try (have SQ := Lib.hid (SQ.out.fresh hBd))
           have hbb : Below wa.heap.size wa wd := by first | exact HBe.out.trans (hBd.mono HBe.out.size) | exact HBc.out.trans (hBd.mono HBc.out.size)
           have HBd := Lib.hid hbb
           have SP := Lib.hid hSd
           have d0 := (hbb.cell (p := ⟨m, 0, none⟩) hml).trans a0
           have d1 := (hbb.cell (p := ⟨m, 1, none⟩) hml).trans a1
           have d2 := (hbb.cell (p := ⟨m, 2, none⟩) hml).trans a2
           clear hBd hSd hbb)
        | (go_at_call 36
           refine (HRS.out _ (by first | exact HBd.out | exact HBc.out)).mono ?_
           rintro e we ⟨v, rfl, hSe, hBe⟩
           obtain ⟨Ae, ce, rfl, _, _⟩ := hSe.shape
           try (have SP := Lib.hid (SP.out.fresh hBe))
           have hbb : Below wa.heap.size wa we := by first | exact HBd.out.trans (hBe.mono HBd.out.size) | exact HBc.out.trans (hBe.mono HBc.out.size)
           have HBe := Lib.hid hbb
           have SQ := Lib.hid hSe
           have e0 := (hbb.cell (p := ⟨m, 0, none⟩) hml).trans a0
           have e1 := (hbb.cell (p := ⟨m, 1, none⟩) hml).trans a1
           have e2 := (hbb.cell (p := ⟨m, 2, none⟩) hml).trans a2
           clear hBe hSe hbb)
        | (go_at_call 34
           refine (sameI_self _ _ _ _ _ _ SP.out SQ.out).mono ?_
           rintro e wf ⟨rfl, hBf⟩
           have hbb : Below wa.heap.size wa wf := by first | exact HBe.out.trans (hBf.mono HBe.out.size) | exact HBd.out.trans (hBf.mono HBd.out.size)
           have HBf := Lib.hid hbb
           have f0 := (hbb.cell (p := ⟨m, 0, none⟩) hml).trans a0
           have f1 := (hbb.cell (p := ⟨m, 1, none⟩) hml).trans a1
           have f2 := (hbb.cell (p := ⟨m, 2, none⟩) hml).trans a2
           clear hBf hbb))
    all_goals go_wp2_with fail
    all_goals go_meet
    all_goals exact ⟨rfl, HBf.out⟩
  case rest =>
    obtain ⟨rfl, hBc⟩ := hcut
    obtain ⟨w1, rfl⟩ : ∃ z, z = wc := ⟨_, rfl⟩
    have HB1 := Lib.hid hBc
    have HSN1 := Lib.hid (HSN.out.fresh hBc)
    clear hBc HNM HRS HAP
    go_wp2_with fail
    go_loopw [6] (fun i wr => ∃ k : Nat, k ≤ ks.length ∧ i = .int .i64 k ∧ Below w1.heap.size w1 wr) (fun i _ => ks.length - (RowKit.intOf i).toNat)
    case atStart => exact ⟨0, Nat.zero_le _, rfl, Below.refl _ _⟩
    case round =>
      obtain ⟨k, hk, rfl, hBr⟩ := hrel
      obtain ⟨w2, rfl⟩ : ∃ z, z = wr := ⟨_, rfl⟩
      have HBr := Lib.hid hBr
      have hb2 : Below wa.heap.size wa w2 := HB1.out.trans (hBr.mono HB1.out.size)
      have HB2 := Lib.hid hb2
      have HP2 := Lib.hid (HPa.out.fresh hb2)
      have HM2 := Lib.hid (HMa.out.fresh hb2)
      have n0 := (hb2.cell (p := ⟨m, 0, none⟩) hml).trans a0
      have n1 := (hb2.cell (p := ⟨m, 1, none⟩) hml).trans a1
      by_cases hlt : k < ks.length
      · obtain ⟨bn, on, rfl, _, hbn, hxx⟩ := (HSN1.out.fresh hBr).cell_ hlt
        have x0 := hxx 0 _ rfl
        simp only [Nat.add_zero, Nat.mul_one] at x0
        have hsz : ks[k].size ≤ maxLen := by have := Idx.streams_size HKS.out HST.out ks[k] (List.getElem_mem hlt); unfold maxLen; omega
        obtain ⟨st, hstt⟩ : ∃ z, ks[k] = z := ⟨_, rfl⟩
        rw [hstt] at x0 hsz
        clear hxx hb2 hBr hstt
        have hV := fun wz (hz : Below w2.heap.size w2 wz) => sversion_any wz p s F W (HP2.out.fresh hz) st hsz
        have hRV := fun wz (hz : Below w2.heap.size w2 wz) => Idx.rversion_any wz x s.L FX (HM2.out.fresh hz).idx st (by omega)
        have hPo := fun wz (hz : Below w2.heap.size w2 wz) (k : Int) => spos_any wz p s F W (HP2.out.fresh hz) st hsz k (by omega)
        have hRPo := fun wz (hz : Below w2.heap.size w2 wz) (k : Int) => Idx.rpos_any wz x s.L FX (HM2.out.fresh hz).idx st k (by omega)
        have hRd := fun wz (hz : Below w2.heap.size w2 wz) (k : Int) => sread_any wz p s F W (HP2.out.fresh hz) st hsz k (by omega)
        have hRRd := fun wz (hz : Below w2.heap.size w2 wz) (k : Int) => mread_any wz m s M ⟨x, t, FX, FT, HM2.out.fresh hz⟩ st k (by omega)
        have hle := Idx.ofS_le s.L st
        obtain ⟨N, hN⟩ : ∃ N, (Idx.ofS s.L st).length = N := ⟨_, rfl⟩
        rw [hN] at hV hRV hle
        obtain ⟨xs, hxs⟩ : ∃ xs, (((Idx.ofS s.L st).drop (max (gmax 1 ((N : Int) - 9)) 1 - 1).toNat).take 16).map Idx.Kp.e = xs := ⟨_, rfl⟩
        have hRd := fun wz hz => hRd wz hz (gmax 1 ((N : Int) - 9))
        have hRRd := fun wz hz => hRRd wz hz (gmax 1 ((N : Int) - 9))
        rw [hxs] at hRd hRRd
        obtain ⟨po, hpo⟩ : ∃ po, Idx.posOf (Idx.ofS s.L st) (N : Int) = po := ⟨_, rfl⟩
        have hPo := fun wz hz => hPo wz hz (N : Int)
        have hRPo := fun wz hz => hRPo wz hz (N : Int)
        rw [hpo] at hPo hRPo
        have HV := Lib.hid hV
        have HRV := Lib.hid hRV
        have HPo := Lib.hid hPo
        have HRPo := Lib.hid hRPo
        have HRd := Lib.hid hRd
        have HRRd := Lib.hid hRRd
        clear hV hRV hPo hRPo hRd hRRd hN hxs hpo
        go_wp2_with fail
        refine (HV.out w2 (Below.refl _ _)).mono ?_
        rintro e wz ⟨rfl, rfl⟩
        have hwn : IntKind.i64.wrap ((N : Int) - 9) = (N : Int) - 9 := IntWalk.i64_in _ (by omega)
        go_upto_region 8 with (fail)
        go_cut [110] (fun s110 wx => s110 = .bool false ∧ Below w2.heap.size w2 wx)
        case first =>
          as_aux_lemma =>
          have hWd : Below w2.heap.size w2 w2.drew := ⟨rfl, rfl, rfl, Nat.le_refl _, fun _ _ => rfl⟩
          have hml2 : m < w2.heap.size := HM2.out.lt _ HM2.out.fm
          clear a0 a1 a2 n1
          go_wp2_with fail
          go_region_held3 (fun z => z.cell? ⟨m, 0, none⟩ = some (.pointer (some ⟨x, 0, none⟩)) ∧ z.cell? ⟨bn, on + k, none⟩ = some (.string st))
            (first | exact ⟨e0, e1⟩ | exact ⟨d0, d1⟩ | exact ⟨c0, c1⟩ | exact ⟨n0, x0⟩)
            (first
              | (go_at_call 38
                 refine (HRV.out _ hWd).mono ?_
                 rintro e wz ⟨rfl, rfl⟩)
              | (go_at_call 40
                 refine (HRd.out _ (by first | exact HBd.out | exact hWd)).mono ?_
                 rintro e wc ⟨v, rfl, hBc, hSc⟩
                 obtain ⟨Ac, cc, rfl, _, _⟩ := hSc.shape
                 try (have SQ := Lib.hid (SQ.out.fresh hBc))
                 have hbb : Below w2.heap.size w2 wc := by first | exact HBd.out.trans (hBc.mono HBd.out.size) | exact hWd.trans (hBc.mono hWd.size)
                 have HBc := Lib.hid hbb
                 have SP := Lib.hid hSc
                 have c0 := (hbb.cell (p := ⟨m, 0, none⟩) hml2).trans n0
                 have c1 := (hbb.cell (p := ⟨bn, on + k, none⟩) hbn).trans x0
                 clear hBc hSc hbb)
              | (go_at_call 41
                 refine (HRRd.out _ (by first | exact HBc.out | exact hWd)).mono ?_
                 rintro e wd ⟨v, rfl, hBd, hSd⟩
                 obtain ⟨Ad, cd, rfl, _, _⟩ := hSd.shape
                 try (have SP := Lib.hid (SP.out.fresh hBd))
                 have hbb : Below w2.heap.size w2 wd := by first | exact HBc.out.trans (hBd.mono HBc.out.size) | exact hWd.trans (hBd.mono hWd.size)
                 have HBd := Lib.hid hbb
                 have SQ := Lib.hid hSd
                 have d0 := (hbb.cell (p := ⟨m, 0, none⟩) hml2).trans n0
                 have d1 := (hbb.cell (p := ⟨bn, on + k, none⟩) hbn).trans x0
                 clear hBd hSd hbb)
              | (go_at_call 39
                 refine (sameE_self _ _ _ _ _ _ SP.out SQ.out).mono ?_
                 rintro e we ⟨rfl, hBe⟩
                 have hbb : Below w2.heap.size w2 we := by first | exact HBd.out.trans (hBe.mono HBd.out.size) | exact HBc.out.trans (hBe.mono HBc.out.size)
                 have HBe := Lib.hid hbb
                 have e0 := (hbb.cell (p := ⟨m, 0, none⟩) hml2).trans n0
                 have e1 := (hbb.cell (p := ⟨bn, on + k, none⟩) hbn).trans x0
                 clear hBe hbb)
              | (go_at_call 42
                 refine (HPo.out _ HBe.out).mono ?_
                 rintro e wz ⟨rfl, rfl⟩)
              | (go_at_call 43
                 refine (HRPo.out _ HBe.out).mono ?_
                 rintro e wz ⟨rfl, rfl⟩))
          all_goals go_wp2_with fail
          all_goals go_meet
          all_goals exact ⟨rfl, HBe.out⟩
        case rest =>
          obtain ⟨rfl, hBc⟩ := hcut
          have HBc := Lib.hid (HBr.out.trans (hBc.mono HBr.out.size))
          clear hBc
          go_wp2_with fail
          go_roundw
          case rel => exact ⟨k + 1, hlt, by go_num, HBc.out⟩
          case measure => simp [RowKit.intOf]; omega
      · have hkd : k = ks.length := by omega
        subst hkd
        obtain ⟨w3, rfl⟩ : ∃ z, z = w2 := ⟨_, rfl⟩
        clear hBr hb2 hlt hk a0 a1 a2
        go_wp2_with fail
        go_loopw [8] (fun i wr => ∃ k : Nat, k ≤ js.length ∧ i = .int .i64 k ∧ Below w3.heap.size w3 wr) (fun i _ => js.length - (RowKit.intOf i).toNat)
        case atStart => exact ⟨0, Nat.zero_le _, rfl, Below.refl _ _⟩
        case round =>
          obtain ⟨k, hk, rfl, hBr⟩ := hrel
          obtain ⟨w4, rfl⟩ : ∃ z, z = wr := ⟨_, rfl⟩
          have HBr := Lib.hid hBr
          have HB4 := Lib.hid (HB2.out.trans (hBr.mono HB2.out.size))
          have m1 := (hBr.cell (p := ⟨m, 1, none⟩) (HM2.out.lt _ HM2.out.fm)).trans n1
          clear hBr
          go_wp2_with fail
          refine (HSS.out w4 HB4.out).mono ?_
          rintro e w5 ⟨v5, rfl, hjl, hS5, hB5⟩
          obtain ⟨A5, c5, rfl, h51, h52⟩ := hS5.shape
          unfold maxLen at h52
          have HB5 := Lib.hid (HB4.out.trans (hB5.mono HB4.out.size))
          have HBr5 := Lib.hid (HBr.out.trans (hB5.mono HBr.out.size))
          have m1 := (hB5.cell (p := ⟨m, 1, none⟩) (World.block_lt_of_cell? _ _ m1)).trans m1
          clear hS5 hB5 h51 h52
          by_cases hlt : k < js.length
          · have dlt : decide ((k : Int) < (js.length : Int)) = true := decide_eq_true (by omega)
            go_wp2_with fail
            refine (HSS.out w5 HB5.out).mono ?_
            rintro e w6 ⟨v6, rfl, _, hS6, hB6⟩
            obtain ⟨A6, c6, rfl, h61, h62⟩ := hS6.shape
            unfold maxLen at h62
            obtain ⟨b6, o6, rfl, _, _, hxx⟩ := hS6.cell_ hlt
            have x6 := hxx 0 _ rfl
            simp only [Nat.add_zero, Nat.mul_one] at x6
            have hses := (HJ2.out js[k]).1 (List.getElem_mem hlt)
            obtain ⟨ee, hee, hes⟩ := hses
            have hi64 := HSE.out.ses ee hee
            rw [hes] at hi64
            obtain ⟨n, hn⟩ : ∃ z, js[k] = z := ⟨_, rfl⟩
            rw [hn] at x6 hi64
            obtain ⟨qs, hq1, hq2⟩ := seqs_of s.T n
            have HB6 := Lib.hid (HB5.out.trans (hB6.mono HB5.out.size))
            have HBr6 := Lib.hid (HBr5.out.trans (hB6.mono HBr5.out.size))
            have m1 := (hB6.cell (p := ⟨m, 1, none⟩) (World.block_lt_of_cell? _ _ m1)).trans m1
            have HQ1 := Lib.hid hq1
            have HQ2 := Lib.hid hq2
            have HSQ := Lib.hid (fun wz (hz : Below wa.heap.size wa wz) => sseqs_any wz p s F W (HPa.out.fresh hz) (by omega) n ⟨by omega, hi64.2⟩ hq1 hq2)
            have HRQ : Hid (∀ wz, Below wa.heap.size wa wz → Calls Tryz.prog 45 #[.pointer (some ⟨t, 0, none⟩), .int .i64 n] wz fun e w' => ∃ v, e = .returned v ∧ Sl w' (fun b => wz.heap.size ≤ b) 1 intc v qs ∧ Below wz.heap.size wz w') := Lib.hid (fun wz hz => by
              refine (Ded.rseqs_any wz t s.T FT (HMa.out.fresh hz).tab hTl n).mono ?_
              rintro e w' ⟨v, ks', rfl, q1, q2, q3, q4⟩
              obtain rfl : ks' = qs := Ded.rising_one q1 HQ1.out (fun z => by rw [q2, HQ2.out])
              exact ⟨v, rfl, (q3.sl (fun _ => rfl)).mono (fun b _ hb => (q3.lt b hb).1), q4⟩)
            have HI64 := Lib.hid hi64
            clear hxx hee hes hn hq1 hq2 hB6 hS6 h61 h62 hi64
            go_wp2_with fail
            refine (HSQ.out w6 HB6.out).mono ?_
            rintro e w7 ⟨v7, rfl, hql, hS7, hB7⟩
            obtain ⟨A7, c7, rfl, h71, h72⟩ := hS7.shape
            unfold maxLen at h72
            have HB7 := Lib.hid (HB6.out.trans (hB7.mono HB6.out.size))
            have HBr7 := Lib.hid (HBr6.out.trans (hB7.mono HBr6.out.size))
            have m1 := (hB7.cell (p := ⟨m, 1, none⟩) (World.block_lt_of_cell? _ _ m1)).trans m1
            have HS7 := Lib.hid hS7
            clear hS7 hB7 x6
            go_wp2_with fail
            refine (HRQ.out w7 HB7.out).mono ?_
            rintro e w8 ⟨v8, rfl, hS8, hB8⟩
            obtain ⟨A8, c8, rfl, _, _⟩ := hS8.shape
            have HB8 := Lib.hid (HB7.out.trans (hB8.mono HB7.out.size))
            have HBr8 := Lib.hid (HBr7.out.trans (hB8.mono HBr7.out.size))
            have m1 := (hB8.cell (p := ⟨m, 1, none⟩) (World.block_lt_of_cell? _ _ m1)).trans m1
            have HS7 := Lib.hid (HS7.out.fresh hB8)
            have HS8 := Lib.hid hS8
            clear hS8 hB8
            go_wp2_with fail
            refine (sameI_self _ _ _ _ _ _ HS7.out HS8.out).mono ?_
            rintro e w9 ⟨rfl, hB9⟩
            have HB9 := Lib.hid (HB8.out.trans (hB9.mono HB8.out.size))
            have HBr9 := Lib.hid (HBr8.out.trans (hB9.mono HBr8.out.size))
            have m1 := (hB9.cell (p := ⟨m, 1, none⟩) (World.block_lt_of_cell? _ _ m1)).trans m1
            have HS7 := Lib.hid (HS7.out.fresh hB9)
            have HMl : Hid (m < w9.heap.size) := Lib.hid (World.block_lt_of_cell? _ _ m1)
            have M1 := Lib.hid m1
            clear hB9 m1
            go_wp2_with fail
            go_loopw [11] (fun i wr => ∃ j : Nat, j ≤ qs.length ∧ i = .int .i64 j ∧ Below w9.heap.size w9 wr) (fun i _ => qs.length - (RowKit.intOf i).toNat)
            case atStart => exact ⟨0, Nat.zero_le _, rfl, Below.refl _ _⟩
            case round =>
              obtain ⟨j, hj, rfl, hBr⟩ := hrel
              obtain ⟨wA, rfl⟩ : ∃ z, z = wr := ⟨_, rfl⟩
              by_cases hjt : j < qs.length
              · obtain ⟨b7, o7, rfl, _, hb7, hxx⟩ := (HS7.out.fresh hBr).cell_ hjt
                have x7 := hxx 0 _ rfl
                simp only [Nat.add_zero, Nat.mul_one] at x7
                have m1 := (hBr.cell (p := ⟨m, 1, none⟩) HMl.out).trans M1.out
                have hknown := (HQ2.out qs[j]).1 (List.getElem_mem hjt)
                obtain ⟨y, hy⟩ : ∃ z, qs[j] = z := ⟨_, rfl⟩
                rw [hy] at x7 hknown
                have hy64 : Ded.i64 y := by
                  unfold Ded.lookL at hknown
                  split at hknown
                  · simp at hknown
                  · cases hc : Ded.findL s.T n y with
                    | none => rw [hc] at hknown; simp at hknown
                    | some o =>
                      obtain ⟨e, he, _, e2⟩ := find_at hc
                      have := HSE.out.seq e he
                      rw [e2] at this
                      exact ⟨by omega, this.2⟩
                rcases hlk : Ded.lookL s.T n y with ⟨⟨l1, l2, l3, l4⟩, l5⟩
                have hlook := fun wz (hz : Below wa.heap.size wa wz) => slook_any wz p s F W (HPa.out.fresh hz) n y ⟨by have := HI64.out; omega, HI64.out.2⟩ hy64
                have hrl := fun wz (hz : Below wa.heap.size wa wz) => Ded.rlook_any wz t s.T FT (HMa.out.fresh hz).tab n y
                rw [hlk] at hlook hrl
                have HLOOK := Lib.hid hlook
                have HRL := Lib.hid hrl
                have HBA := Lib.hid (HB9.out.trans (hBr.mono HB9.out.size))
                have HBrA := Lib.hid hBr
                clear hxx hknown hy hy64 hlk hlook hrl hBr
                go_wp2_with fail
                refine (HLOOK.out wA HBA.out).mono ?_
                rintro e wB ⟨rfl, hBB⟩
                have hBC : Below wA.heap.size wA (wB.alloc (.cells #[.int .i64 l1, .int .i64 l2, .int .i64 l3, .int .i64 l4] 35)) := hBB.alloc hBB.size _
                have hg1 := heap_alloc_new wB (.cells #[.int .i64 l1, .int .i64 l2, .int .i64 l3, .int .i64 l4] 35)
                go_upto_region 21 with (fail)
                generalize wB.alloc (.cells #[.int .i64 l1, .int .i64 l2, .int .i64 l3, .int .i64 l4] 35) = wC at hBC hg1 ⊢
                have m1 := (hBC.cell (p := ⟨m, 1, none⟩) (World.block_lt_of_cell? _ _ m1)).trans m1
                have x7 := (hBC.cell (p := ⟨b7, o7 + j, none⟩) hb7).trans x7
                have HBC := Lib.hid (HBA.out.trans (hBC.mono HBA.out.size))
                have HBrC := Lib.hid (HBrA.out.trans (hBC.mono HBrA.out.size))
                have HG1 := Lib.hid hg1
                have hm1 := World.block_lt_of_cell? _ _ m1
                have hx7 := World.block_lt_of_cell? _ _ x7
                have hnew0 := World.new_ne wC _ m1
                have hnew1 := World.new_ne wC _ x7
                clear hBB hBC hg1
                go_cut [14, 15] (fun s6 s7 wx => SawCut wC l1 l2 l3 l4 l5 s6 s7 wx)
                case first =>
                  have hWd : Below wC.heap.size wC wC.drew := ⟨rfl, rfl, rfl, Nat.le_refl _, fun _ _ => rfl⟩
                  go_wp2_with fail
                  go_region_held3 (fun z => z.cell? ⟨m, 1, none⟩ = some (.pointer (some ⟨t, 0, none⟩)) ∧ z.cell? ⟨b7, o7 + j, none⟩ = some (.int .i64 y))
                    (first | with_reducible exact ⟨v0, v1⟩ | with_reducible exact ⟨m1, x7⟩ | go_keep)
                    (first
                      | (go_at_call 47
                         refine (HRL.out _ (by first | exact HBC.out.trans (hWd.mono HBC.out.size) | exact HBC.out.trans ((hWd.alloc (Nat.le_refl _) _).mono HBC.out.size))).mono ?_
                         rintro e w5 ⟨he, hB5⟩
                         obtain rfl : e = .returned (.tuple #[.agg #[.int .i64 l1, .int .i64 l2, .int .i64 l3, .int .i64 l4], .int .i64 l5]) := he
                         have hz5 := hB5.size
                         have hB5' : Below wC.heap.size wC w5 := by
                           first
                           | exact hWd.trans hB5
                           | exact (hWd.alloc (Nat.le_refl _) _).trans (hB5.mono (by simp))
                         try
                           (have hblk := (Keeps.of_fresh hB5 (fun _ => False)).grownTo (heap_alloc_new wC.drew (.cells #[.int .i64 0, .int .i64 0, .int .i64 0, .int .i64 0] 35)) id
                            have q0 : w5.cell? ⟨wC.heap.size, 0, none⟩ = some (.int .i64 0) := cell_of_row w5 _ 0 _ _ _ hblk
                            have q1 : w5.cell? ⟨wC.heap.size, 1, none⟩ = some (.int .i64 0) := cell_of_row w5 _ 1 _ _ _ hblk
                            have q2 : w5.cell? ⟨wC.heap.size, 2, none⟩ = some (.int .i64 0) := cell_of_row w5 _ 2 _ _ _ hblk
                            have q3 : w5.cell? ⟨wC.heap.size, 3, none⟩ = some (.int .i64 0) := cell_of_row w5 _ 3 _ _ _ hblk
                            have f0 : w5.frozen? ⟨wC.heap.size, 0, none⟩ = false := frozen_block hblk 0
                            have f1 : w5.frozen? ⟨wC.heap.size, 1, none⟩ = false := frozen_block hblk 1
                            have f2 : w5.frozen? ⟨wC.heap.size, 2, none⟩ = false := frozen_block hblk 2
                            have f3 : w5.frozen? ⟨wC.heap.size, 3, none⟩ = false := frozen_block hblk 3
                            have HBLK := Lib.hid hblk
                            clear hblk)
                         have HB5 := Lib.hid hB5'
                         have v0 := (hB5'.cell (p := ⟨m, 1, none⟩) hm1).trans m1
                         have v1 := (hB5'.cell (p := ⟨b7, o7 + j, none⟩) hx7).trans x7
                         clear hB5 hB5'))
                  all_goals go_wp2_with fail
                  all_goals go_meet
                  · exact SawCut.new HB5.out
                  · exact SawCut.old HB5.out HBLK.out
                case rest =>
                  obtain ⟨g2, rfl, rfl, _, hg2, hBD⟩ := hcut
                  have hg1 := (Keeps.of_fresh hBD (fun _ => False)).grownTo HG1.out id
                  have q0 : wc.cell? ⟨wB.heap.size, 0, none⟩ = some (.int .i64 l1) := cell_of_row wc _ 0 _ _ _ hg1
                  have q1 : wc.cell? ⟨wB.heap.size, 1, none⟩ = some (.int .i64 l2) := cell_of_row wc _ 1 _ _ _ hg1
                  have q2 : wc.cell? ⟨wB.heap.size, 2, none⟩ = some (.int .i64 l3) := cell_of_row wc _ 2 _ _ _ hg1
                  have q3 : wc.cell? ⟨wB.heap.size, 3, none⟩ = some (.int .i64 l4) := cell_of_row wc _ 3 _ _ _ hg1
                  have r0 : wc.cell? ⟨g2, 0, none⟩ = some (.int .i64 l1) := cell_of_row wc _ 0 _ _ _ hg2
                  have r1 : wc.cell? ⟨g2, 1, none⟩ = some (.int .i64 l2) := cell_of_row wc _ 1 _ _ _ hg2
                  have r2 : wc.cell? ⟨g2, 2, none⟩ = some (.int .i64 l3) := cell_of_row wc _ 2 _ _ _ hg2
                  have r3 : wc.cell? ⟨g2, 3, none⟩ = some (.int .i64 l4) := cell_of_row wc _ 3 _ _ _ hg2
                  have hoc := ocNe_self ⟨l1, l2, l3, l4⟩
                  have HBD := Lib.hid (HBrC.out.trans (hBD.mono HBrC.out.size))
                  clear hg1 hg2 hBD m1 x7
                  go_wp2_with fail
                  go_roundw
                  case rel => exact ⟨j + 1, hjt, by go_num, HBD.out⟩
                  case measure => simp [RowKit.intOf]; omega
              · have hjd : j = qs.length := by omega
                subst hjd
                have HBz := Lib.hid (HBr9.out.trans (hBr.mono HBr9.out.size))
                clear hBr
                go_wp2_with fail
                go_roundw
                case rel => exact ⟨k + 1, hlt, by go_num, HBz.out⟩
                case measure => simp [RowKit.intOf]; omega
          · have dlt : decide ((k : Int) < (js.length : Int)) = false := decide_eq_false (by omega)
            go_wp2_with fail
            go_ret
            exact ⟨rfl, HBa.out.trans (HB5.out.mono HBa.out.size)⟩
end Go.Proofs.YtlfhokcjbgpjhaaGreatDoor

/- StatePlays: what the statement's function does: it answers true. Under the tables that utf8 lays. -/
/- What the statements' loops 'e := l[i]; e.Pos = s.Applied() + 1; s.Apply(e)' keep. No condition. -/
namespace Go.Proofs.YtlfhokcjbgpjhaaGreatDoor
open Go.RowKit Go.Bl

/-- Entries played so far: w is where the arguments lie, I what is known of the state. -/
def PlayRel (I : St → Prop) (w : World) (p n : Nat) (i : Value) (wr : World) : Prop :=
  ∃ (k : Nat) (s : St) (F W : Nat → Prop), k ≤ n ∧ i = .int .i64 k ∧ StAt wr p s F W ∧ (∀ j, F j → w.heap.size ≤ j) ∧ I s ∧ s.L.length ≤ 8 * k ∧ s.T.length ≤ k ∧ (0 ≤ s.ap ∧ s.ap ≤ k) ∧ Below w.heap.size w wr
/-- An entry that stands at another place. -/
def Ent.at_ (a : Ent) (pos : Int) : Ent := { a with pos := pos }
theorem PlayRel.step {I : St → Prop} {w w2 w3 : World} {p n k : Nat} {s : St} {a : Ent} {F W : Nat → Prop} (hk : k < n) (hF : ∀ j, F j → w.heap.size ≤ j) (hB : Below w.heap.size w w2) (h2 : StAt w2 p s F W)
    (hI : I (applyS s a).1) (hL : s.L.length ≤ 8 * k) (hT : s.T.length ≤ k) (ha : 0 ≤ s.ap ∧ s.ap ≤ k) (h : Applied w2 w3 p (applyS s a).1 F W) {i : Value} (hi : i = .int .i64 ((k + 1 : Nat) : Int)) : PlayRel I w p n i w3 := by
  obtain ⟨W', h1, h3, hK⟩ := h
  obtain ⟨g1, g2, g3, _⟩ := apply_grows s a
  refine ⟨k + 1, _, _, W', hk, hi, h3, fun j hj => ?_, hI, by omega, by omega, by omega, ?_⟩
  · rcases hj with hj | hj
    · exact hF j hj
    · exact Nat.le_trans hB.size hj.1
  · exact Below.keep hB hK hB.size (fun j hj => hF j (h2.wf j hj))
theorem Applied.below {w w2 w3 : World} {p : Nat} {s s' : St} {F W : Nat → Prop} (h : Applied w2 w3 p s' F W) (hB : Below w.heap.size w w2) (h2 : StAt w2 p s F W) (hF : ∀ j, F j → w.heap.size ≤ j) :
    ∃ F' W', StAt w3 p s' F' W' ∧ (∀ j, F' j → w.heap.size ≤ j) ∧ (∀ k, W' k → W k ∨ w2.heap.size ≤ k) ∧ Keeps W w2 w3 ∧ Below w.heap.size w w3 := by
  obtain ⟨W', h1, h3, hK⟩ := h
  refine ⟨_, W', h3, fun j hj => ?_, h1, hK, Below.keep hB hK hB.size (fun j hj => hF j (h2.wf j hj))⟩
  rcases hj with hj | hj
  · exact hF j hj
  · exact Nat.le_trans hB.size hj.1

/-! ### What a state expects, in plain words -/
def exE (pos expect : Int) (v : Value) : Ent := ⟨pos, 1, ⟨#[115]⟩, expect, 137438953472, 137438953472, v, List.replicate 3 kEv⟩
theorem exE_right {pos expect : Int} (v : Value) (hp : 1 ≤ pos ∧ pos ≤ 100) (he : -1 ≤ expect ∧ expect ≤ 274877906944) : rightB (exE pos expect v) = true := by
  have hn : nameB ⟨#[115]⟩ = true := by kernel_rfl
  have hk : (List.replicate 3 kEv).any (fun e => !rightE e) = false := by kernel_rfl
  have hnum : numB 137438953472 = true := by decide
  have h1 : numB pos = true := by simp only [numB, Bool.and_eq_true, decide_eq_true_eq]; omega
  have h2 : numB 1 = true := by decide
  have hf : fitsI (exE pos expect v) = 0 := by
    unfold fitsI exE
    simp only [hn, hnum, hk]
    rw [if_neg (by decide), if_neg (by omega), if_neg (by decide), if_neg (by decide), if_neg (by decide), if_neg (by decide), if_neg (by decide)]
  simp only [rightB, hf]
  show (numB pos && (numB 1 && _)) = true
  rw [h1, h2]
  decide
theorem ofS_mk_same (es : List Ev) (s : ByteArray) (p : Int) : Idx.ofS (es.map (Idx.mkOne s p)) s = es.map fun e => (⟨p, e⟩ : Idx.Kp) := by
  induction es with
  | nil => rfl
  | cons e es ih =>
    simp only [List.map_cons]
    rw [show Idx.mkOne s p e :: es.map (Idx.mkOne s p) = [Idx.mkOne s p e] ++ es.map (Idx.mkOne s p) from rfl, Idx.ofS_append, ih]
    simp [Idx.ofS, Idx.mkOne, Idx.One.kp]
theorem ofS_mk_other (es : List Ev) {s t : ByteArray} (h : t ≠ s) (p : Int) : Idx.ofS (es.map (Idx.mkOne t p)) s = [] := by
  simp only [Idx.ofS, List.map_eq_nil_iff, List.filter_eq_nil_iff, List.mem_map]
  rintro o ⟨e, _, rfl⟩
  simp [Idx.mkOne, h]
/-- What is there of the stream behind a batch that is done. -/
theorem ofS_addS (s : St) (a : Ent) : Idx.ofS (addS s a) a.stream = Idx.ofS s.L a.stream ++ a.evs.map fun e => (⟨a.pos, e⟩ : Idx.Kp) := by
  rw [addS, Idx.ofS_append, ofS_mk_same]
theorem expects_done {s : St} {a : Ent} (hr : rightB a = true) (hp : a.pos = s.ap + 1) (hw : (Ded.lookL s.T a.session a.seq).2 = 0) :
    (applyS s a).2.2 = 0 ∧ ((a.expect = -1 ∨ a.expect = ((Idx.ofS s.L a.stream).length : Int)) → (applyS s a).2.1 = ⟨1, a.pos, (Idx.ofS s.L a.stream).length, (Idx.ofS s.L a.stream).length + a.evs.length⟩ ∧
      Idx.ofS (applyS s a).1.L a.stream = Idx.ofS s.L a.stream ++ a.evs.map fun e => (⟨a.pos, e⟩ : Idx.Kp)) ∧
    (¬ (a.expect = -1 ∨ a.expect = ((Idx.ofS s.L a.stream).length : Int)) → (applyS s a).2.1 = ⟨2, a.pos, (Idx.ofS s.L a.stream).length, (Idx.ofS s.L a.stream).length⟩ ∧ Idx.ofS (applyS s a).1.L a.stream = Idx.ofS s.L a.stream) := by
  rcases apply_next hr hp with ⟨o, e1, _⟩ | ⟨e1, _⟩ | ⟨_, _, _, e⟩
  · rw [e1] at hw; cases hw
  · omega
  · rw [e]
    refine ⟨rfl, fun h => ⟨?_, ?_⟩, fun h => ⟨?_, ?_⟩⟩
    · show freshO s a = _
      unfold freshO verS
      rw [if_neg (by omega)]
    · show Idx.ofS (freshL s a) _ = _
      unfold freshL verS
      rw [if_neg (by omega), ofS_addS]
    · show freshO s a = _
      unfold freshO verS
      rw [if_pos (by omega)]
    · show Idx.ofS (freshL s a) _ = _
      unfold freshL verS
      rw [if_pos (by omega)]
theorem apply_ok {s : St} {a : Ent} (hr : rightB a = true) (hp : a.pos = s.ap + 1) : (applyS s a).2.2 = 0 := by
  rcases apply_next hr hp with ⟨o, _, _, _, e⟩ | ⟨_, _, e⟩ | ⟨_, _, _, e⟩ <;> rw [e]
theorem pos_added (l : List Idx.Kp) (e : Ev) (es : List Ev) (p : Int) : Idx.posOf (l ++ (e :: es).map fun e => (⟨p, e⟩ : Idx.Kp)) ((l.length : Int) + 1) = p := by
  unfold Idx.posOf
  rw [if_neg (by rw [List.length_append, List.length_map, List.length_cons]; omega), show ((l.length : Int) + 1 - 1).toNat = l.length by omega]
  simp
end Go.Proofs.YtlfhokcjbgpjhaaGreatDoor

/- Rows of entries that one makes; the statements' helper row. No condition. -/
namespace Go.Proofs.YtlfhokcjbgpjhaaGreatDoor
open Go.RowKit Go.Bl
attribute [local go_sem ↓] Go.wp_at_zero Go.wp_at_succ

theorem sl_map {α β : Type} {w : World} {F : Nat → Prop} {k : Nat} {enc : β → List Value} {v : Value} {L : List α} (f : α → β) : Sl w F k (fun x => enc (f x)) v L ↔ Sl w F k enc v (L.map f) := by
  constructor
  · rintro ⟨A, c, h1, h2, h3, h4⟩
    refine ⟨A, c, by rw [List.length_map]; exact h1, by rw [List.length_map]; exact h2, h3, fun h0 => ?_⟩
    rw [List.length_map] at h0
    obtain ⟨b, o, e1, e2, e3, e4⟩ := h4 h0
    refine ⟨b, o, e1, e2, e3, fun i hi j u hu => ?_⟩
    have hi' : i < L.length := by simpa using hi
    rw [List.getElem_map] at hu
    exact e4 i hi' j u hu
  · rintro ⟨A, c, h1, h2, h3, h4⟩
    rw [List.length_map] at h1 h2
    refine ⟨A, c, h1, h2, h3, fun h0 => ?_⟩
    obtain ⟨b, o, e1, e2, e3, e4⟩ := h4 (by rw [List.length_map]; exact h0)
    refine ⟨b, o, e1, e2, e3, fun i hi j u hu => ?_⟩
    exact e4 i (by rw [List.length_map]; exact hi) j u (by rw [List.getElem_map]; exact hu)
/-- Entries whose slice of events is one cell. -/
structure EntS where
  val : Ent
  one : val.evv.oneCell' = true
def ensc (a : EntS) : List Value := entc a.val
theorem ensc_one (x : EntS) (u : Value) (h : u ∈ ensc x) : u.oneCell' = true := by
  simp only [ensc, entc, List.mem_cons, List.not_mem_nil, or_false] at h
  rcases h with rfl | rfl | rfl | rfl | rfl | rfl | rfl <;> first | rfl | exact x.one
theorem infoEntry : (Tryz.prog.info? 42).map (fun i => (i.zero, i.size, i.bytes)) = some (some (.agg #[.int .i64 0, .int .i64 0, .string ByteArray.empty, .int .i64 0, .int .i64 0, .int .i64 0, .slice none 0 0]), 7, 80) := by kernel_rfl
theorem elEns : El Tryz.prog 22 42 7 80 ensc := ⟨Tryz.underlying22, ⟨_, infoEntry, rfl⟩, by decide, by decide, fun _ => rfl, ensc_one⟩
theorem infoOut : (Tryz.prog.info? 35).map (fun i => (i.zero, i.size, i.bytes)) = some (some (.agg #[.int .i64 0, .int .i64 0, .int .i64 0, .int .i64 0]), 4, 32) := by kernel_rfl
theorem occ_one (x : Ded.Oc) (u : Value) (h : u ∈ Ded.occ x) : u.oneCell' = true := by
  simp only [Ded.occ, List.mem_cons, List.not_mem_nil, or_false] at h
  rcases h with rfl | rfl | rfl | rfl <;> rfl
theorem lift_ents (l : List Ent) (h : ∀ a ∈ l, a.evv.oneCell' = true) : ∃ L : List EntS, L.map (fun x => x.val) = l := by
  induction l with
  | nil => exact ⟨[], rfl⟩
  | cons a l ih =>
    obtain ⟨L, hL⟩ := ih (fun b hb => h b (List.mem_cons_of_mem _ hb))
    exact ⟨⟨a, h a List.mem_cons_self⟩ :: L, by rw [List.map_cons, hL]⟩


/-- Entries that fit are small. -/
theorem EntOk.small {w : World} {G : Nat → Prop} {a : Ent} (h : EntOk w G a) (hf : entF a = true) : BatchSm w G a := by
  obtain ⟨q1, q2, q3⟩ := entF_at hf
  exact ⟨h.1, fun e he => ⟨Nat.le_trans (q3 e he).1 (by decide), Nat.le_trans (q3 e he).2 (by decide)⟩, Nat.le_trans q1 (by decide), Nat.le_trans q2 (by decide)⟩
theorem EntOk.batch {w : World} {G : Nat → Prop} {a : Ent} (h : EntOk w G a) (hf : entF a = true) : BatchOk w G a :=
  ⟨h.1, h.2.1, h.2.2.1, Nat.le_trans (entF_at hf).2.1 (by decide)⟩

/-- One of the row: as it was, or at its place. -/
def Placed (l : List Ent) (R : List EntS) : Prop := ∀ (i : Nat) (h : i < R.length) (h' : i < l.length), R[i].val = l[i] ∨ R[i].val = l[i].at_ ((i : Int) + 1)

set_option maxRecDepth 8000 in
set_option maxHeartbeats 4000000 in
theorem row_any (w : World) (v : Value) (l : List Ent) (h : EntsOk w (fun b => b < w.heap.size) v l) (raw : Int) (hraw : -9223372036854775808 ≤ raw ∧ raw ≤ 9223372036854775807) (hl : l.length ≤ 1000) (hfl : ∀ a ∈ l, a.evs.length ≤ 1000) :
    Calls Tryz.prog 8 #[v, .int .i64 raw] w fun e w' => ∃ u R, e = .returned u ∧ R.length = l.length ∧ Own w' w.heap.size 42 7 ensc u R ∧ Placed l R ∧ Below w.heap.size w w' := by
  obtain ⟨A, c, rfl, hA1, hA2⟩ := h.1.shape
  unfold maxLen at hA2
  have HA := Lib.hid h
  have HFL := Lib.hid hfl
  clear h hfl
  go_enter Tryz.func8, Tryz.ntmps8
  go_wp2_with fail
  go_loopw [5, 6] (fun u i wr => ∃ (k : Nat) (R : List EntS), k ≤ l.length ∧ i = .int .i64 k ∧ R.length = k ∧ Own wr w.heap.size 42 7 ensc u R ∧ Placed l R ∧ Below w.heap.size w wr) (fun _ i _ => l.length - (RowKit.intOf i).toNat)
  case atStart => exact ⟨0, [], Nat.zero_le _, rfl, rfl, Own.nil_ _ _ _ _ _, fun i h => absurd h (by simp), Below.refl _ _⟩
  case round =>
    obtain ⟨k, R, hk, rfl, hRl, hO, hR, hB⟩ := hrel
    obtain ⟨Au, cu, rfl, _, _⟩ := hO.shape_ (n := R.length) rfl
    have HO := Lib.hid hO
    have HR := Lib.hid hR
    have HRL := Lib.hid hRl
    have hrk : R.length ≤ 1000 := by omega
    by_cases hlt : k < l.length
    · have hAr := HA.out.fresh hB
      obtain ⟨b, o, rfl, _, _, hxx⟩ := hAr.1.cell_ hlt
      have hbo := hAr.2 l[k] (List.getElem_mem hlt)
      have hevl := HFL.out l[k] (List.getElem_mem hlt)
      have HLK := Lib.hid (rfl : l[k] = l[k])
      obtain ⟨a, ha⟩ : ∃ a, l[k] = a := ⟨_, rfl⟩
      rw [ha] at hxx hbo hevl
      have HAK := Lib.hid ha
      obtain ⟨B, d, hv, _, _⟩ := hbo.1.shape
      have one : a.evv.oneCell' = true := by rw [hv]; rfl
      have x0 := hxx 0 _ rfl
      have x1 := hxx 1 _ rfl
      have x2 := hxx 2 _ rfl
      have x3 := hxx 3 _ rfl
      have x4 := hxx 4 _ rfl
      have x5 := hxx 5 _ rfl
      have x6 := hxx 6 _ rfl
      rw [hv] at x6
      simp only [Nat.add_zero] at x0
      have HV := Lib.hid hv
      have HONEC := Lib.hid one
      have HB := Lib.hid hB
      clear hxx hAr hbo hv ha hO hR hB one hRl HLK
      have hB1 : Below wr.heap.size wr (wr.alloc (.cells #[.int .i64 a.pos, .int .i64 a.epoch, .string a.stream, .int .i64 a.expect, .int .i64 a.session, .int .i64 a.seq, .slice B a.evs.length d] 42)) := (Below.refl _ wr).alloc (Nat.le_refl _) _
      have hblk := heap_alloc_new wr (.cells #[.int .i64 a.pos, .int .i64 a.epoch, .string a.stream, .int .i64 a.expect, .int .i64 a.session, .int .i64 a.seq, .slice B a.evs.length d] 42)
      go_upto_region 6 with (fail)
      generalize wr.alloc (.cells #[.int .i64 a.pos, .int .i64 a.epoch, .string a.stream, .int .i64 a.expect, .int .i64 a.session, .int .i64 a.seq, .slice B a.evs.length d] 42) = w1 at hB1 hblk ⊢
      have HB1 := Lib.hid (HB.out.trans (hB1.mono HB.out.size))
      have hgw : wr.heap.size < w1.heap.size := (Array.getElem?_eq_some_iff.1 hblk).1
      have g0 : w1.frozen? ⟨wr.heap.size, 0, none⟩ = false := frozen_block hblk 0
      clear x0 x1 x2 x3 x4 x5 x6
      have y0 : w1.cell? ⟨wr.heap.size, 0, none⟩ = some (.int .i64 (a.pos)) := cell_of_row w1 _ 0 _ _ _ hblk
      have y1 : w1.cell? ⟨wr.heap.size, 1, none⟩ = some (.int .i64 a.epoch) := cell_of_row w1 _ 1 _ _ _ hblk
      have y2 : w1.cell? ⟨wr.heap.size, 2, none⟩ = some (.string a.stream) := cell_of_row w1 _ 2 _ _ _ hblk
      have y3 : w1.cell? ⟨wr.heap.size, 3, none⟩ = some (.int .i64 a.expect) := cell_of_row w1 _ 3 _ _ _ hblk
      have y4 : w1.cell? ⟨wr.heap.size, 4, none⟩ = some (.int .i64 a.session) := cell_of_row w1 _ 4 _ _ _ hblk
      have y5 : w1.cell? ⟨wr.heap.size, 5, none⟩ = some (.int .i64 a.seq) := cell_of_row w1 _ 5 _ _ _ hblk
      have y6 : w1.cell? ⟨wr.heap.size, 6, none⟩ = some (.slice B a.evs.length d) := cell_of_row w1 _ 6 _ _ _ hblk
      have HO1 := Lib.hid (HO.out.fresh hB1)
      have hOl := fun b hb => (HO.out.lt b hb).2
      have HOL := Lib.hid hOl
      have HBLK := Lib.hid hblk
      have hwb := HB.out.size
      clear hblk hB1 hOl
      go_wp2_with fail
      refine (pick_any w1 raw hraw 7 (by decide) (by decide)).mono ?_
      rintro e w2 ⟨j, hj, rfl, rfl⟩
      by_cases hjk : j = k
      · have d1 : ((j : Int) != (k : Int)) = false := by simp [hjk]
        have HKK := Lib.hid (Keeps.refl (fun q => q = wr.heap.size) w1)
        have HO := HO1
        have HBK := HB1
        clear hjk g0
        have hone := fun (cs : Array Value) (hcs : cs.toList = ensc ⟨a,HONEC.out⟩) => Sl.single (k := 7) (enc := ensc) (x := ⟨a,HONEC.out⟩) (heap_alloc_new w1 (.cells cs 42)) hcs
        have hBn : Below w1.heap.size w1 (w1.alloc (.cells #[.int .i64 (a.pos), .int .i64 a.epoch, .string a.stream, .int .i64 a.expect, .int .i64 a.session, .int .i64 a.seq, .slice B a.evs.length d] 42)) := (Below.refl _ _).alloc (Nat.le_refl _) _
        have HONE := Lib.hid (hone #[.int .i64 (a.pos), .int .i64 a.epoch, .string a.stream, .int .i64 a.expect, .int .i64 a.session, .int .i64 a.seq, .slice B a.evs.length d] (by show _ = entc _; simp only [entc, HV.out]))
        have HOW := Lib.hid ((HO.out.keep HKK.out (fun b hb e => by have := HOL.out b hb; omega)).fresh hBn)
        have HBN := Lib.hid (HBK.out.trans (hBn.mono HBK.out.size))
        clear hone hBn
        go_wp2_with (at_builtin; refine elEns.append _ (by rfl) _ _ rfl w.heap.size _ _ rfl HOW.out _ _ _ rfl HONE.out (by simp; omega) HBN.out.size ?_; intro v' w' hO' hgr hAt)
        go_roundw
        case rel =>
          refine ⟨k + 1, R ++ [⟨a,HONEC.out⟩], hlt, by go_num, by have := HRL.out; simp; omega, hO', fun i h1 h2 => ?_, Below.keep HBN.out (Keeps.of_grown hgr) HBN.out.size (fun q hq => (HOW.out.lt q hq).1)⟩
          by_cases hi : i < R.length
          · rw [List.getElem_append_left hi]
            exact HR.out i hi h2
          · have hik : i = k := by have := HRL.out; rw [List.length_append] at h1; simp at h1; omega
            subst hik
            rw [List.getElem_append_right (by have := HRL.out; omega)]
            simp only [HRL.out, Nat.sub_self, List.getElem_cons_zero]
            exact .inl HAK.out.symm
        case measure => simp [RowKit.intOf]; omega
      · have d1 : ((j : Int) != (k : Int)) = true := by simp; omega
        clear hjk
        go_upto_region 8 with (fail)
        have hkS : Keeps (fun q => q = wr.heap.size) w1 _ := (Keeps.refl (fun q => q = wr.heap.size) w1).setCell (p := ⟨wr.heap.size, 0, none⟩) (fun _ => rfl) (.int .i64 ((k : Int) + 1))
        have hk2 := setCell_block' (o := 0) (v := .int .i64 ((k : Int) + 1)) HBLK.out
        generalize w1.setCell ⟨wr.heap.size, 0, none⟩ (.int .i64 ((k : Int) + 1)) = w2 at hkS hk2 ⊢
        have HKK := Lib.hid hkS
        have HO := HO1
        have HBK := Lib.hid (Below.keep HB1.out hkS HB1.out.size (fun q e => by omega))
        clear y0 y1 y2 y3 y4 y5 y6 g0 hkS
        have y0 : w2.cell? ⟨wr.heap.size, 0, none⟩ = some (.int .i64 ((k:Int)+1)) := cell_of_row w2 _ 0 _ _ _ hk2
        have y1 : w2.cell? ⟨wr.heap.size, 1, none⟩ = some (.int .i64 a.epoch) := cell_of_row w2 _ 1 _ _ _ hk2
        have y2 : w2.cell? ⟨wr.heap.size, 2, none⟩ = some (.string a.stream) := cell_of_row w2 _ 2 _ _ _ hk2
        have y3 : w2.cell? ⟨wr.heap.size, 3, none⟩ = some (.int .i64 a.expect) := cell_of_row w2 _ 3 _ _ _ hk2
        have y4 : w2.cell? ⟨wr.heap.size, 4, none⟩ = some (.int .i64 a.session) := cell_of_row w2 _ 4 _ _ _ hk2
        have y5 : w2.cell? ⟨wr.heap.size, 5, none⟩ = some (.int .i64 a.seq) := cell_of_row w2 _ 5 _ _ _ hk2
        have y6 : w2.cell? ⟨wr.heap.size, 6, none⟩ = some (.slice B a.evs.length d) := cell_of_row w2 _ 6 _ _ _ hk2
        clear hk2
        have hone := fun (cs : Array Value) (hcs : cs.toList = ensc ⟨a.at_ ((k:Int)+1),HONEC.out⟩) => Sl.single (k := 7) (enc := ensc) (x := ⟨a.at_ ((k:Int)+1),HONEC.out⟩) (heap_alloc_new w2 (.cells cs 42)) hcs
        have hBn : Below w2.heap.size w2 (w2.alloc (.cells #[.int .i64 ((k:Int)+1), .int .i64 a.epoch, .string a.stream, .int .i64 a.expect, .int .i64 a.session, .int .i64 a.seq, .slice B a.evs.length d] 42)) := (Below.refl _ _).alloc (Nat.le_refl _) _
        have HONE := Lib.hid (hone #[.int .i64 ((k:Int)+1), .int .i64 a.epoch, .string a.stream, .int .i64 a.expect, .int .i64 a.session, .int .i64 a.seq, .slice B a.evs.length d] (by show _ = entc _; simp only [entc, Ent.at_, HV.out]))
        have HOW := Lib.hid ((HO.out.keep HKK.out (fun b hb e => by have := HOL.out b hb; omega)).fresh hBn)
        have HBN := Lib.hid (HBK.out.trans (hBn.mono HBK.out.size))
        clear hone hBn
        go_wp2_with (at_builtin; refine elEns.append _ (by rfl) _ _ rfl w.heap.size _ _ rfl HOW.out _ _ _ rfl HONE.out (by simp; omega) HBN.out.size ?_; intro v' w' hO' hgr hAt)
        go_roundw
        case rel =>
          refine ⟨k + 1, R ++ [⟨a.at_ ((k:Int)+1),HONEC.out⟩], hlt, by go_num, by have := HRL.out; simp; omega, hO', fun i h1 h2 => ?_, Below.keep HBN.out (Keeps.of_grown hgr) HBN.out.size (fun q hq => (HOW.out.lt q hq).1)⟩
          by_cases hi : i < R.length
          · rw [List.getElem_append_left hi]
            exact HR.out i hi h2
          · have hik : i = k := by have := HRL.out; rw [List.length_append] at h1; simp at h1; omega
            subst hik
            rw [List.getElem_append_right (by have := HRL.out; omega)]
            simp only [HRL.out, Nat.sub_self, List.getElem_cons_zero]
            exact .inr (by rw [HAK.out])
        case measure => simp [RowKit.intOf]; omega
    · have hkd : k = l.length := by omega
      subst hkd
      go_wp2_with fail
      go_ret
      exact ⟨_, R, rfl, HRL.out, HO.out, HR.out, hB⟩
end Go.Proofs.YtlfhokcjbgpjhaaGreatDoor

namespace Go.Proofs.YtlfhokcjbgpjhaaGreatDoor
open Go.RowKit Go.Bl
attribute [local go_sem ↓] Go.wp_at_zero Go.wp_at_succ

theorem StAt.okL {w : World} {p : Nat} {s : St} {F W : Nat → Prop} (h : StAt w p s F W) : Ded.OkL s.T := by
  obtain ⟨px, pt, FX, FT, GT, h⟩ := h
  obtain ⟨bm, R, h, _⟩ := h.tab
  exact h.ok
theorem apply_str {s : St} {a : Ent} {n : Nat} (h : ∀ o ∈ s.L, o.stream.size ≤ n) (ha : a.stream.size ≤ n) : ∀ o ∈ (applyS s a).1.L, o.stream.size ≤ n := by
  have hf : ∀ o ∈ freshL s a, o.stream.size ≤ n := by
    unfold freshL addS
    split
    · exact h
    · intro o ho
      rcases List.mem_append.1 ho with e | e
      · exact h o e
      · obtain ⟨z, _, rfl⟩ := List.mem_map.1 e
        exact ha
  unfold applyS
  split
  · exact h
  · split
    · exact h
    · split
      · exact h
      · split
        · exact h
        · exact hf
/-- Both states behind k entries, and the row of all of them. -/
structure Both (w0 wr : World) (p m : Nat) (u : Value) (R : List EntS) (s : St) (F W M : Nat → Prop) (k : Nat) : Prop where
  st : StAt wr p s F W
  mt : MtAt wr m s M
  fm : ∀ j, F j → ¬ M j
  fl : ∀ j, F j → w0.heap.size ≤ j
  ml : ∀ j, M j → w0.heap.size ≤ j
  row : Sl wr (fun b => u.ownBlock = some b) 7 ensc u R
  rf : ∀ b, u.ownBlock = some b → b < wr.heap.size ∧ ¬ F b ∧ ¬ M b
  lL : s.L.length ≤ 8 * k
  lT : s.T.length ≤ k
  ap : 0 ≤ s.ap ∧ s.ap ≤ k
  str : ∀ o ∈ s.L, o.stream.size ≤ 300
  bel : Below w0.heap.size w0 wr
section
variable {w0 wr wx w7 w8 w9 : World} {p m k : Nat} {u : Value} {R : List EntS} {s s' : St} {F W M : Nat → Prop}
theorem Both.fresh (h : Both w0 wr p m u R s F W M k) (hb : Below wr.heap.size wr wx) : Both w0 wx p m u R s F W M k :=
  ⟨h.st.fresh hb, h.mt.fresh hb, h.fm, h.fl, h.ml, h.row.fresh hb, fun b e => ⟨Nat.lt_of_lt_of_le (h.rf b e).1 hb.size, (h.rf b e).2⟩, h.lL, h.lT, h.ap, h.str, h.bel.trans (hb.mono h.bel.size)⟩
theorem Both.stl (h : Both w0 wr p m u R s F W M k) : ∀ j, W j → j < wr.heap.size := fun j hj => h.st.lt j (h.st.wf j hj)
/-- Only blocks of neither state, nor of the row, are turned. -/
theorem Both.keep {G : Nat → Prop} (h : Both w0 wr p m u R s F W M k) (hk : Keeps G wr wx) (hG : ∀ j, G j → wr.heap.size ≤ j) : Both w0 wx p m u R s F W M k :=
  h.fresh (hk.below (Nat.le_refl _) hG)
theorem Both.after (h : Both w0 wr p m u R s F W M k) (hA : Applied wr w7 p s' F W) : MtAt w7 m s M := by
  obtain ⟨W', _, _, hK⟩ := hA
  exact h.mt.keep hK (fun j hj e => h.fm j (h.st.wf j e) hj)
theorem Both.keepE (_h : Both w0 wr p m u R s F W M k) (hA : Applied wr w7 p s' F W) {g : Nat} {o : Obj} (hg : wr.heap[g]? = some o) (hn : ¬ W g) : w7.heap[g]? = some o := by
  obtain ⟨W', _, _, hK⟩ := hA
  exact hK.grownTo hg hn
theorem Both.belApp (h : Both w0 wr p m u R s F W M k) (hA : Applied wr w7 p s' F W) : Below w0.heap.size w0 w7 := by
  obtain ⟨W', _, _, hK⟩ := hA
  exact Below.keep h.bel hK h.bel.size (fun j hj => h.fl j (h.st.wf j hj))
theorem Both.step (h : Both w0 wr p m u R s F W M k) {a : Ent} {o : Ded.Oc} {r : Int} (hA : Applied wr w7 p s' F W) (hb : Below w7.heap.size w7 w8) (hM : MApplied w8 w9 m s' M) (hr : applyS s a = (s', o, r)) (ha : a.stream.size ≤ 300) :
    ∃ F' W' M', Both w0 w9 p m u R s' F' W' M' (k + 1) := by
  have hbA := h.belApp hA
  obtain ⟨W', h1, h3, hK⟩ := hA
  obtain ⟨hMt, hKM⟩ := hM
  obtain ⟨g1, g2, g3, _⟩ := apply_grows s a
  have hstr := apply_str (a := a) h.str ha
  rw [hr] at g1 g2 g3 hstr
  have g1 : s'.L.length ≤ s.L.length + 8 := g1
  have g2 : s'.T.length ≤ s.T.length + 1 := g2
  have g3 : s.ap ≤ s'.ap ∧ s'.ap ≤ s.ap + 1 := g3
  have ml := h.mt.lt
  have fl := h.st.lt
  have z0 := hK.size
  have z1 := hb.size
  have z2 := hKM.size
  refine ⟨fun j => F j ∨ (wr.heap.size ≤ j ∧ j < w7.heap.size), W', fun j => M j ∨ (w8.heap.size ≤ j ∧ j < w9.heap.size), ?_⟩
  refine ⟨(h3.fresh hb).keep hKM ?_, hMt, ?_, ?_, ?_, ?_, ?_, by have := h.lL; omega, by have := h.lT; omega, by have := h.ap; omega, hstr, ?_⟩
  · rintro j (hj | hj) e
    · exact h.fm j hj e
    · have := ml j e; omega
  · rintro j (hj | hj) (e | e)
    · exact h.fm j hj e
    · have := fl j hj; omega
    · have := ml j e; omega
    · omega
  · rintro j (hj | hj)
    · exact h.fl j hj
    · exact Nat.le_trans h.bel.size hj.1
  · rintro j (hj | hj)
    · exact h.ml j hj
    · have := hbA.size; omega
  · refine ((h.row.keep hK (fun b _ hb' e => (h.rf b hb').2.1 (h.st.wf b e))).fresh hb).keep hKM (fun b _ hb' e => (h.rf b hb').2.2 e)
  · intro b hb'
    obtain ⟨q1, q2, q3⟩ := h.rf b hb'
    refine ⟨by omega, ?_, ?_⟩
    · rintro (e | e)
      · exact q2 e
      · omega
    · rintro (e | e)
      · exact q3 e
      · omega
  · exact Below.keep (hbA.trans (hb.mono hbA.size)) hKM (Nat.le_trans hbA.size z1) (fun j hj => h.ml j hj)
end

set_option maxRecDepth 10000 in
set_option maxHeartbeats 4000000 in
theorem plays_any (w : World) (hT : Tabs w) (v : Value) (l : List Ent) (h : EntsOk w (fun b => b < w.heap.size) v l) (raw : Int) (hraw : -9223372036854775808 ≤ raw ∧ raw ≤ 9223372036854775807) :
    Calls Tryz.prog 4 #[v, .int .i64 raw] w fun x w' => x = .returned (.bool true) ∧ Below w.heap.size w w' := by
  have hne := neqOc
  obtain ⟨A, c, rfl, hA1, hA2⟩ := h.1.shape
  unfold maxLen at hA2
  have HTb := Lib.hid hT
  have HA := Lib.hid h
  clear hT h
  go_enter Tryz.func4, Tryz.ntmps4
  go_wp2_with fail
  refine (shown_any w HTb.out).mono ?_
  rintro e wa ⟨rfl, hBa⟩
  have HBa := Lib.hid hBa
  clear hBa
  go_wp2_with fail
  refine (fits_all wa _ _ l (HA.out.fresh HBa.out)).mono ?_
  rintro x wb ⟨rfl, hBb⟩
  have HBb := Lib.hid (HBa.out.trans (hBb.mono HBa.out.size))
  clear hBb
  go_wp2_with fail
  refine (snew_any wb).mono ?_
  rintro e wc ⟨p, W0, rfl, _, hW0, hS0, hBc⟩
  have HBc := Lib.hid (HBb.out.trans (hBc.mono HBb.out.size))
  have HS0 := Lib.hid hS0
  have hzc := hBc.size
  clear hBc hS0 hW0
  cases hfb : fitsB l
  · go_wp2_with fail
    go_ret
    exact ⟨rfl, HBc.out⟩
  have HFB := Lib.hid hfb
  clear hfb
  have hl40 := (fitsB_at HFB.out).1
  go_wp2_with fail
  refine (mnew_any wc).mono ?_
  rintro e wd ⟨m, rfl, hM0, hBd⟩
  have HM0 := Lib.hid hM0
  have HBd := Lib.hid (HBc.out.trans (hBd.mono HBc.out.size))
  have HSd := Lib.hid (HS0.out.fresh hBd)
  have hzd := hBd.size
  clear hM0 hBd HS0
  go_wp2_with fail
  refine (row_any wd _ l (by
    have h0 := HA.out.fresh HBd.out
    exact ⟨h0.1.mono (fun k hk _ => hk), fun a ha => ⟨(h0.2 a ha).1.mono (fun k hk _ => hk), (h0.2 a ha).2⟩⟩) raw hraw (by omega) (fun a ha => by have := (entF_at ((fitsB_at HFB.out).2 a ha)).2.1; omega)).mono ?_
  rintro e we ⟨u, R, rfl, hRl, hO, hPl, hBe⟩
  have hB0 : Both w we p m u R St.new (fun k => wb.heap.size ≤ k ∧ k < wc.heap.size) W0 (fun k => wc.heap.size ≤ k ∧ k < wd.heap.size) 0 :=
    ⟨HSd.out.fresh hBe, HM0.out.fresh hBe, fun j h1 h2 => by omega, fun j hj => Nat.le_trans HBb.out.size hj.1, fun j hj => Nat.le_trans HBc.out.size hj.1, (hO.sl elEns.len),
      fun b hb => ⟨(hO.lt b hb).2, fun e => by have := (hO.lt b hb).1; omega, fun e => by have := (hO.lt b hb).1; omega⟩, by simp [St.new], by simp [St.new], by simp [St.new], by simp [St.new], HBd.out.trans (hBe.mono HBd.out.size)⟩
  obtain ⟨Au, cu, rfl, hu1, hu2⟩ := hO.shape_ (n := R.length) rfl
  unfold maxLen at hu2
  have HB0 := Lib.hid hB0
  have HRl := Lib.hid hRl
  have HPl := Lib.hid hPl
  have hR40 : R.length ≤ 40 := by omega
  clear hB0 hRl hPl hO hBe
  go_wp2_with fail
  go_loopw [10] (fun i wr => ∃ (k : Nat) (s : St) (F W M : Nat → Prop), k ≤ R.length ∧ i = .int .i64 k ∧ Both w wr p m (.slice Au R.length cu) R s F W M k) (fun i _ => R.length - (RowKit.intOf i).toNat)
  case atStart => exact ⟨0, St.new, _, W0, _, Nat.zero_le _, rfl, HB0.out⟩
  case round =>
    obtain ⟨k, s, F, W, M, hk, rfl, hBo⟩ := hrel
    have HBo := Lib.hid hBo
    clear hBo HB0
    by_cases hlt : k < R.length
    · go_wp2_with fail
      refine (sclone_any wr p s F W HBo.out.st (by have := HBo.out.lL; omega) (by have := HBo.out.lT; omega)).mono ?_
      rintro e wq ⟨q, Wq, rfl, hq, hWq, hBq, hSq⟩
      have HWq := Lib.hid hWq
      have HSq := Lib.hid hSq
      have HBoq := Lib.hid (HBo.out.fresh hBq)
      have hzq := hBq.size
      clear hWq hSq hBq hq
      go_wp2_with fail
      refine (applied_any wq p s F W HBoq.out.st).mono ?_
      rintro e wz ⟨rfl, rfl⟩
      have hap := HBoq.out.ap
      have hap1 : s.ap + 1 < 1000000 := by omega
      have hap2 : 0 ≤ s.ap + 1 := by omega
      go_wp2_with fail
      refine (first_any wq (s.ap + 1) 50 (-1) 1 (by decide)).mono ?_
      rintro e w1 ⟨v1, rfl, hO1, hB1⟩
      have HO1 := Lib.hid hO1
      have HBo1 := Lib.hid (HBoq.out.fresh hB1)
      have hb1 : BatchOk w1 (fun q => v1.ownBlock = some q) (firstE (s.ap + 1) 50 (-1) 1 v1) := ⟨hO1.sl (fun _ => rfl), firstE_ok 0 0 0 1 (.int .i64 0), by show (1 : Nat) ≤ _; omega, by simp [firstE]⟩
      have hcall := apply_any w1 (HTb.out.fresh HBo1.out.bel) q s _ Wq (HSq.out.fresh hB1) _ (firstE (s.ap + 1) 50 (-1) 1 v1) hb1 (fun b hb e => by have h1 := (hO1.lt b hb).1; have h2 := HSq.out.lt b (HSq.out.wf b e); omega) (by omega) (by have := HBoq.out.lL; simp [firstE]; omega) (by have := HBoq.out.lT; omega)
      have HC := Lib.hid hcall
      clear hO1 hB1 hb1 hcall
      go_wp2_with fail
      refine HC.out.mono ?_
      rintro e wf ⟨rfl, hAp⟩
      have hKf : Keeps Wq w1 wf := hAp.elim fun _ h => h.2.2
      have HBof : Hid (Both w wf p m (.slice Au R.length cu) R s F W M k) := Lib.hid (by
        have h0 := HBo1.out
        have lF := HBo.out.st.lt
        have lM := HBo.out.mt.lt
        refine ⟨h0.st.keep hKf (fun j hj e => ?_), h0.mt.keep hKf (fun j hj e => ?_), h0.fm, h0.fl, h0.ml, h0.row.keep hKf (fun b _ hb e => ?_), fun b hb => ⟨Nat.lt_of_lt_of_le (h0.rf b hb).1 hKf.size, (h0.rf b hb).2⟩, h0.lL, h0.lT, h0.ap, h0.str, Below.keep h0.bel hKf h0.bel.size (fun j hj => ?_)⟩
        · have := lF j hj; have := HWq.out j e; omega
        · have := lM j hj; have := HWq.out j e; omega
        · have := (HBo.out.rf b hb).1; have := HWq.out b e; omega
        · have := HWq.out j hj; have := HBo.out.bel.size; omega)
      clear hAp hKf HC HBo1 HBoq HSq HWq HO1 HBo
      obtain ⟨b, o, rfl, _, _, hxx⟩ := HBof.out.row.cell_ hlt
      have hxx : ∀ (i : Nat) (u : Value), (entc R[k].val)[i]? = some u → wf.cell? ⟨b, o + k * 7 + i, none⟩ = some u := hxx
      have hlk : k < l.length := by have := HRl.out; omega
      obtain ⟨pos0, hpos⟩ : ∃ pos0, R[k].val = l[k].at_ pos0 := by
        rcases HPl.out k hlt hlk with e | e
        · exact ⟨l[k].pos, e⟩
        · exact ⟨_, e⟩
      rw [hpos] at hxx
      have hok := HA.out.2 l[k] (List.getElem_mem hlk)
      have hfe := (fitsB_at HFB.out).2 l[k] (List.getElem_mem hlk)
      obtain ⟨a, ha⟩ : ∃ a, l[k] = a := ⟨_, rfl⟩
      rw [ha] at hxx hok hfe
      obtain ⟨B, d, hv, _, _⟩ := hok.1.shape
      have x0 := hxx 0 _ rfl
      have x1 := hxx 1 _ rfl
      have x2 := hxx 2 _ rfl
      have x3 := hxx 3 _ rfl
      have x4 := hxx 4 _ rfl
      have x5 := hxx 5 _ rfl
      have x6 := hxx 6 _ rfl
      simp only [Ent.at_] at x0 x1 x2 x3 x4 x5 x6
      rw [hv] at x6
      simp only [Nat.add_zero] at x0
      have HFE := Lib.hid (entF_at hfe).1
      have hevl := (entF_at hfe).2.1
      have HV := Lib.hid hv
      have hEv : ∀ wz, Below w.heap.size w wz → ∀ pos : Int, BatchOk wz (fun b => b < w.heap.size) (a.at_ pos) ∧ BatchSm wz (fun b => b < w.heap.size) (a.at_ pos) := fun wz hz pos => by
        have h0 := hok.fresh hz
        exact ⟨h0.batch hfe, h0.small hfe⟩
      have HEV := Lib.hid hEv
      have HNW : Hid (¬ W wf.heap.size) := Lib.hid (fun e => by have := HBof.out.stl _ e; omega)
      have hB5 : Below wf.heap.size wf (wf.alloc (.cells #[.int .i64 pos0, .int .i64 a.epoch, .string a.stream, .int .i64 a.expect, .int .i64 a.session, .int .i64 a.seq, .slice B a.evs.length d] 42)) := (Below.refl _ wf).alloc (Nat.le_refl _) _
      have hblk := heap_alloc_new wf (.cells #[.int .i64 pos0, .int .i64 a.epoch, .string a.stream, .int .i64 a.expect, .int .i64 a.session, .int .i64 a.seq, .slice B a.evs.length d] 42)
      clear hxx hpos hok hfe ha hv hEv
      go_upto_region 16 with (fail)
      generalize wf.alloc (.cells #[.int .i64 pos0, .int .i64 a.epoch, .string a.stream, .int .i64 a.expect, .int .i64 a.session, .int .i64 a.seq, .slice B a.evs.length d] 42) = w5 at hB5 hblk ⊢
      have HBo5 := Lib.hid (HBof.out.fresh hB5)
      have HB5 := Lib.hid hB5
      have HE := Lib.hid hblk
      have y0 : w5.cell? ⟨wf.heap.size, 0, none⟩ = some (.int .i64 pos0) := cell_of_row w5 _ 0 _ _ _ hblk
      have g0 : w5.frozen? ⟨wf.heap.size, 0, none⟩ = false := frozen_block hblk 0
      clear x0 x1 x2 x3 x4 x5 x6 hB5 hblk
      by_cases hpk : pos0 = (k : Int) + 1
      · have d1 : (pos0 == (k : Int) + 1) = true := by simp [hpk]
        clear hpk
        go_wp2_with fail
        refine (applied_any w5 p s F W HBo5.out.st).mono ?_
        rintro e wz ⟨rfl, rfl⟩
        go_upto_region 18 with (fail)
        have hkS : Keeps (fun q => q = wf.heap.size) wf _ := ((Keeps.of_fresh HB5.out (fun q => q = wf.heap.size))).setCell (p := ⟨wf.heap.size, 0, none⟩) (fun _ => rfl) (.int .i64 (s.ap + 1))
        have hk2 := setCell_block' (o := 0) (v := .int .i64 (s.ap + 1)) HE.out
        generalize w5.setCell ⟨wf.heap.size, 0, none⟩ (.int .i64 (s.ap + 1)) = w6 at hkS hk2 ⊢
        have HBo := Lib.hid (HBof.out.keep hkS (fun j e => by omega))
        have HBZ := Lib.hid HBo.out.bel
        have HE := Lib.hid hk2
        clear y0 g0 d1 hkS hk2
        as_aux_lemma =>
        have y0 : w6.cell? ⟨wf.heap.size, 0, none⟩ = some (.int .i64 (s.ap+1)) := cell_of_row w6 _ 0 _ _ _ HE.out
        have y1 : w6.cell? ⟨wf.heap.size, 1, none⟩ = some (.int .i64 a.epoch) := cell_of_row w6 _ 1 _ _ _ HE.out
        have y2 : w6.cell? ⟨wf.heap.size, 2, none⟩ = some (.string a.stream) := cell_of_row w6 _ 2 _ _ _ HE.out
        have y3 : w6.cell? ⟨wf.heap.size, 3, none⟩ = some (.int .i64 a.expect) := cell_of_row w6 _ 3 _ _ _ HE.out
        have y4 : w6.cell? ⟨wf.heap.size, 4, none⟩ = some (.int .i64 a.session) := cell_of_row w6 _ 4 _ _ _ HE.out
        have y5 : w6.cell? ⟨wf.heap.size, 5, none⟩ = some (.int .i64 a.seq) := cell_of_row w6 _ 5 _ _ _ HE.out
        have y6 : w6.cell? ⟨wf.heap.size, 6, none⟩ = some (.slice B a.evs.length d) := cell_of_row w6 _ 6 _ _ _ HE.out
        have HBt := Lib.hid (HEV.out w6 HBZ.out (s.ap+1))
        have hcall := apply_any w6 (HTb.out.fresh HBZ.out) p s F W HBo.out.st _ (a.at_ (s.ap+1)) (HBt.out.1) (fun q hq e => by have := HBo.out.fl q (HBo.out.st.wf q e); omega) (by have := HBo.out.ap; omega) (by have := HBo.out.lL; show _ + a.evs.length ≤ _; omega) (by have := HBo.out.lT; omega)
        rw [show (a.at_ (s.ap+1)).evv = .slice B a.evs.length d from HV.out] at hcall
        rcases hrr : applyS s (a.at_ (s.ap+1)) with ⟨s', ⟨r1, r2, r3, r4⟩, r5⟩
        rw [hrr] at hcall
        have HC := Lib.hid hcall
        have HRR := Lib.hid hrr
        clear hcall hrr
        go_wp2_with fail
        refine HC.out.mono ?_
        rintro e w7 ⟨rfl, hAp⟩
        have HAp := Lib.hid hAp
        have HMt := Lib.hid (HBo.out.after hAp)
        have HE7 := Lib.hid (HBo.out.keepE hAp HE.out HNW.out)
        have HBZ7 := Lib.hid (HBo.out.belApp hAp)
        have hB8 : Below w7.heap.size w7 (w7.alloc (.cells #[.int .i64 r1, .int .i64 r2, .int .i64 r3, .int .i64 r4] 35)) := (Below.refl _ _).alloc (Nat.le_refl _) _
        have hg1 := heap_alloc_new w7 (.cells #[.int .i64 r1, .int .i64 r2, .int .i64 r3, .int .i64 r4] 35)
        clear hAp y0 y1 y2 y3 y4 y5 y6
        go_upto_region 19 with (fail)
        generalize w7.alloc (.cells #[.int .i64 r1, .int .i64 r2, .int .i64 r3, .int .i64 r4] 35) = w8 at hB8 hg1 ⊢
        have HB8 := Lib.hid hB8
        have HG1 := Lib.hid hg1
        have hE8 := (Keeps.of_fresh hB8 (fun _ => False)).grownTo HE7.out id
        have HE8 := Lib.hid hE8
        have y0 : w8.cell? ⟨wf.heap.size, 0, none⟩ = some (.int .i64 (s.ap+1)) := cell_of_row w8 _ 0 _ _ _ hE8
        have y1 : w8.cell? ⟨wf.heap.size, 1, none⟩ = some (.int .i64 a.epoch) := cell_of_row w8 _ 1 _ _ _ hE8
        have y2 : w8.cell? ⟨wf.heap.size, 2, none⟩ = some (.string a.stream) := cell_of_row w8 _ 2 _ _ _ hE8
        have y3 : w8.cell? ⟨wf.heap.size, 3, none⟩ = some (.int .i64 a.expect) := cell_of_row w8 _ 3 _ _ _ hE8
        have y4 : w8.cell? ⟨wf.heap.size, 4, none⟩ = some (.int .i64 a.session) := cell_of_row w8 _ 4 _ _ _ hE8
        have y5 : w8.cell? ⟨wf.heap.size, 5, none⟩ = some (.int .i64 a.seq) := cell_of_row w8 _ 5 _ _ _ hE8
        have y6 : w8.cell? ⟨wf.heap.size, 6, none⟩ = some (.slice B a.evs.length d) := cell_of_row w8 _ 6 _ _ _ hE8
        have hcall := mapply_any w8 m s M (HMt.out.fresh hB8) _ (a.at_ (s.ap+1)) ((HEV.out w8 (HBZ7.out.trans (hB8.mono HBZ7.out.size)) (s.ap+1)).2) (fun q hq e => by have := HBo.out.ml q e; omega) (by have := HBo.out.ap; omega) (by have := HBo.out.lL; show _ + a.evs.length ≤ _; omega) (by have := HBo.out.lT; omega)
        rw [show (a.at_ (s.ap+1)).evv = .slice B a.evs.length d from HV.out, HRR.out] at hcall
        have HC := Lib.hid hcall
        clear hcall hB8 hg1 hE8
        go_wp2_with fail
        refine HC.out.mono ?_
        rintro e w9 ⟨rfl, hMp⟩
        obtain ⟨F', W', M', hBo9⟩ := HBo.out.step HAp.out HB8.out hMp HRR.out HFE.out
        have hg1 := hMp.2.grownTo HG1.out (by
          have := HMt.out.lt
          exact fun e => by have := this _ e; omega)
        have hB10 : Below w9.heap.size w9 (w9.alloc (.cells #[.int .i64 r1, .int .i64 r2, .int .i64 r3, .int .i64 r4] 35)) := (Below.refl _ _).alloc (Nat.le_refl _) _
        have hg2 := heap_alloc_new w9 (.cells #[.int .i64 r1, .int .i64 r2, .int .i64 r3, .int .i64 r4] 35)
        have hg1 := (Keeps.of_fresh hB10 (fun _ => False)).grownTo hg1 id
        have HBo10 := Lib.hid (hBo9.fresh hB10)
        clear hMp hBo9 hB10 y0 y1 y2 y3 y4 y5 y6
        go_upto_region 20 with (fail)
        generalize w9.alloc (.cells #[.int .i64 r1, .int .i64 r2, .int .i64 r3, .int .i64 r4] 35) = w10 at hg1 hg2 HBo10 ⊢
        have q0 : w10.cell? ⟨w7.heap.size, 0, none⟩ = some (.int .i64 r1) := cell_of_row w10 _ 0 _ _ _ hg1
        have q1 : w10.cell? ⟨w7.heap.size, 1, none⟩ = some (.int .i64 r2) := cell_of_row w10 _ 1 _ _ _ hg1
        have q2 : w10.cell? ⟨w7.heap.size, 2, none⟩ = some (.int .i64 r3) := cell_of_row w10 _ 2 _ _ _ hg1
        have q3 : w10.cell? ⟨w7.heap.size, 3, none⟩ = some (.int .i64 r4) := cell_of_row w10 _ 3 _ _ _ hg1
        have v0 : w10.cell? ⟨w9.heap.size, 0, none⟩ = some (.int .i64 r1) := cell_of_row w10 _ 0 _ _ _ hg2
        have v1 : w10.cell? ⟨w9.heap.size, 1, none⟩ = some (.int .i64 r2) := cell_of_row w10 _ 1 _ _ _ hg2
        have v2 : w10.cell? ⟨w9.heap.size, 2, none⟩ = some (.int .i64 r3) := cell_of_row w10 _ 2 _ _ _ hg2
        have v3 : w10.cell? ⟨w9.heap.size, 3, none⟩ = some (.int .i64 r4) := cell_of_row w10 _ 3 _ _ _ hg2
        have hoc := ocNe_self ⟨r1, r2, r3, r4⟩
        clear hg1 hg2
        go_wp2_with fail
        refine (alike_any w10 p m s' F' W' M' HBo10.out.st HBo10.out.mt (by have := HBo10.out.lL; omega) (by have := HBo10.out.lT; omega) (fun o ho => Nat.le_trans (HBo10.out.str o ho) (by decide)) HBo10.out.st.okL).mono ?_
        rintro e w11 ⟨rfl, hB11⟩
        have HBo11 := Lib.hid (HBo10.out.fresh hB11)
        clear hB11 hoc q0 q1 q2 q3 v0 v1 v2 v3
        go_wp2_with fail
        go_roundw
        case rel => exact ⟨k + 1, s', F', W', M', hlt, by go_num, HBo11.out⟩
        case measure => simp [RowKit.intOf]; omega
      · have d1 : (pos0 == (k : Int) + 1) = false := by simp [hpk]
        have HBo := HBo5
        have HBZ := Lib.hid HBo.out.bel
        clear hpk
        go_upto_region 18 with (fail)
        clear y0 g0 d1
        as_aux_lemma =>
        have y0 : w5.cell? ⟨wf.heap.size, 0, none⟩ = some (.int .i64 (pos0)) := cell_of_row w5 _ 0 _ _ _ HE.out
        have y1 : w5.cell? ⟨wf.heap.size, 1, none⟩ = some (.int .i64 a.epoch) := cell_of_row w5 _ 1 _ _ _ HE.out
        have y2 : w5.cell? ⟨wf.heap.size, 2, none⟩ = some (.string a.stream) := cell_of_row w5 _ 2 _ _ _ HE.out
        have y3 : w5.cell? ⟨wf.heap.size, 3, none⟩ = some (.int .i64 a.expect) := cell_of_row w5 _ 3 _ _ _ HE.out
        have y4 : w5.cell? ⟨wf.heap.size, 4, none⟩ = some (.int .i64 a.session) := cell_of_row w5 _ 4 _ _ _ HE.out
        have y5 : w5.cell? ⟨wf.heap.size, 5, none⟩ = some (.int .i64 a.seq) := cell_of_row w5 _ 5 _ _ _ HE.out
        have y6 : w5.cell? ⟨wf.heap.size, 6, none⟩ = some (.slice B a.evs.length d) := cell_of_row w5 _ 6 _ _ _ HE.out
        have HBt := Lib.hid (HEV.out w5 HBZ.out (pos0))
        have hcall := apply_any w5 (HTb.out.fresh HBZ.out) p s F W HBo.out.st _ (a.at_ (pos0)) (HBt.out.1) (fun q hq e => by have := HBo.out.fl q (HBo.out.st.wf q e); omega) (by have := HBo.out.ap; omega) (by have := HBo.out.lL; show _ + a.evs.length ≤ _; omega) (by have := HBo.out.lT; omega)
        rw [show (a.at_ (pos0)).evv = .slice B a.evs.length d from HV.out] at hcall
        rcases hrr : applyS s (a.at_ (pos0)) with ⟨s', ⟨r1, r2, r3, r4⟩, r5⟩
        rw [hrr] at hcall
        have HC := Lib.hid hcall
        have HRR := Lib.hid hrr
        clear hcall hrr
        go_wp2_with fail
        refine HC.out.mono ?_
        rintro e w7 ⟨rfl, hAp⟩
        have HAp := Lib.hid hAp
        have HMt := Lib.hid (HBo.out.after hAp)
        have HE7 := Lib.hid (HBo.out.keepE hAp HE.out HNW.out)
        have HBZ7 := Lib.hid (HBo.out.belApp hAp)
        have hB8 : Below w7.heap.size w7 (w7.alloc (.cells #[.int .i64 r1, .int .i64 r2, .int .i64 r3, .int .i64 r4] 35)) := (Below.refl _ _).alloc (Nat.le_refl _) _
        have hg1 := heap_alloc_new w7 (.cells #[.int .i64 r1, .int .i64 r2, .int .i64 r3, .int .i64 r4] 35)
        clear hAp y0 y1 y2 y3 y4 y5 y6
        go_upto_region 19 with (fail)
        generalize w7.alloc (.cells #[.int .i64 r1, .int .i64 r2, .int .i64 r3, .int .i64 r4] 35) = w8 at hB8 hg1 ⊢
        have HB8 := Lib.hid hB8
        have HG1 := Lib.hid hg1
        have hE8 := (Keeps.of_fresh hB8 (fun _ => False)).grownTo HE7.out id
        have HE8 := Lib.hid hE8
        have y0 : w8.cell? ⟨wf.heap.size, 0, none⟩ = some (.int .i64 (pos0)) := cell_of_row w8 _ 0 _ _ _ hE8
        have y1 : w8.cell? ⟨wf.heap.size, 1, none⟩ = some (.int .i64 a.epoch) := cell_of_row w8 _ 1 _ _ _ hE8
        have y2 : w8.cell? ⟨wf.heap.size, 2, none⟩ = some (.string a.stream) := cell_of_row w8 _ 2 _ _ _ hE8
        have y3 : w8.cell? ⟨wf.heap.size, 3, none⟩ = some (.int .i64 a.expect) := cell_of_row w8 _ 3 _ _ _ hE8
        have y4 : w8.cell? ⟨wf.heap.size, 4, none⟩ = some (.int .i64 a.session) := cell_of_row w8 _ 4 _ _ _ hE8
        have y5 : w8.cell? ⟨wf.heap.size, 5, none⟩ = some (.int .i64 a.seq) := cell_of_row w8 _ 5 _ _ _ hE8
        have y6 : w8.cell? ⟨wf.heap.size, 6, none⟩ = some (.slice B a.evs.length d) := cell_of_row w8 _ 6 _ _ _ hE8
        have hcall := mapply_any w8 m s M (HMt.out.fresh hB8) _ (a.at_ (pos0)) ((HEV.out w8 (HBZ7.out.trans (hB8.mono HBZ7.out.size)) (pos0)).2) (fun q hq e => by have := HBo.out.ml q e; omega) (by have := HBo.out.ap; omega) (by have := HBo.out.lL; show _ + a.evs.length ≤ _; omega) (by have := HBo.out.lT; omega)
        rw [show (a.at_ (pos0)).evv = .slice B a.evs.length d from HV.out, HRR.out] at hcall
        have HC := Lib.hid hcall
        clear hcall hB8 hg1 hE8
        go_wp2_with fail
        refine HC.out.mono ?_
        rintro e w9 ⟨rfl, hMp⟩
        obtain ⟨F', W', M', hBo9⟩ := HBo.out.step HAp.out HB8.out hMp HRR.out HFE.out
        have hg1 := hMp.2.grownTo HG1.out (by
          have := HMt.out.lt
          exact fun e => by have := this _ e; omega)
        have hB10 : Below w9.heap.size w9 (w9.alloc (.cells #[.int .i64 r1, .int .i64 r2, .int .i64 r3, .int .i64 r4] 35)) := (Below.refl _ _).alloc (Nat.le_refl _) _
        have hg2 := heap_alloc_new w9 (.cells #[.int .i64 r1, .int .i64 r2, .int .i64 r3, .int .i64 r4] 35)
        have hg1 := (Keeps.of_fresh hB10 (fun _ => False)).grownTo hg1 id
        have HBo10 := Lib.hid (hBo9.fresh hB10)
        clear hMp hBo9 hB10 y0 y1 y2 y3 y4 y5 y6
        go_upto_region 20 with (fail)
        generalize w9.alloc (.cells #[.int .i64 r1, .int .i64 r2, .int .i64 r3, .int .i64 r4] 35) = w10 at hg1 hg2 HBo10 ⊢
        have q0 : w10.cell? ⟨w7.heap.size, 0, none⟩ = some (.int .i64 r1) := cell_of_row w10 _ 0 _ _ _ hg1
        have q1 : w10.cell? ⟨w7.heap.size, 1, none⟩ = some (.int .i64 r2) := cell_of_row w10 _ 1 _ _ _ hg1
        have q2 : w10.cell? ⟨w7.heap.size, 2, none⟩ = some (.int .i64 r3) := cell_of_row w10 _ 2 _ _ _ hg1
        have q3 : w10.cell? ⟨w7.heap.size, 3, none⟩ = some (.int .i64 r4) := cell_of_row w10 _ 3 _ _ _ hg1
        have v0 : w10.cell? ⟨w9.heap.size, 0, none⟩ = some (.int .i64 r1) := cell_of_row w10 _ 0 _ _ _ hg2
        have v1 : w10.cell? ⟨w9.heap.size, 1, none⟩ = some (.int .i64 r2) := cell_of_row w10 _ 1 _ _ _ hg2
        have v2 : w10.cell? ⟨w9.heap.size, 2, none⟩ = some (.int .i64 r3) := cell_of_row w10 _ 2 _ _ _ hg2
        have v3 : w10.cell? ⟨w9.heap.size, 3, none⟩ = some (.int .i64 r4) := cell_of_row w10 _ 3 _ _ _ hg2
        have hoc := ocNe_self ⟨r1, r2, r3, r4⟩
        clear hg1 hg2
        go_wp2_with fail
        refine (alike_any w10 p m s' F' W' M' HBo10.out.st HBo10.out.mt (by have := HBo10.out.lL; omega) (by have := HBo10.out.lT; omega) (fun o ho => Nat.le_trans (HBo10.out.str o ho) (by decide)) HBo10.out.st.okL).mono ?_
        rintro e w11 ⟨rfl, hB11⟩
        have HBo11 := Lib.hid (HBo10.out.fresh hB11)
        clear hB11 hoc q0 q1 q2 q3 v0 v1 v2 v3
        go_wp2_with fail
        go_roundw
        case rel => exact ⟨k + 1, s', F', W', M', hlt, by go_num, HBo11.out⟩
        case measure => simp [RowKit.intOf]; omega
    · have hkd : k = R.length := by omega
      subst hkd
      go_wp2_with fail
      go_ret
      exact ⟨rfl, HBo.out.bel⟩
end Go.Proofs.YtlfhokcjbgpjhaaGreatDoor

/- The document's Right. Under the stated premises on sizes. -/
namespace Go.Proofs.YtlfhokcjbgpjhaaGreatDoor
open Go.RowKit Go.Bl
attribute [local go_sem ↓] Go.wp_at_zero Go.wp_at_succ

def betw (n a b : Int) : Bool := decide (a ≤ n) && decide (n ≤ b)
theorem betw_iff {n a b : Int} : betw n a b = true ↔ a ≤ n ∧ n ≤ b := by simp [betw]
theorem betw_not {n a b : Int} : betw n a b = false ↔ ¬ (a ≤ n ∧ n ≤ b) := by rw [← Bool.not_eq_true, betw_iff]
theorem bet_any (w : World) (n a b : Int) : Calls Tryz.prog 61 #[.int .i64 n, .int .i64 a, .int .i64 b] w fun e w' => e = .returned (.bool (betw n a b)) ∧ w = w' := by
  by_cases h1 : a ≤ n
  · have d1 : decide (a ≤ n) = true := decide_eq_true h1
    by_cases h2 : n ≤ b
    · have d2 : decide (n ≤ b) = true := decide_eq_true h2
      have hR : Hid (betw n a b = true) := Lib.hid (betw_iff.2 ⟨h1, h2⟩)
      clear h1 h2
      go_enter Tryz.func61, Tryz.ntmps61
      go_wp2_with fail
      go_ret
      rw [hR.out]
      exact ⟨rfl, rfl⟩
    · have d2 : decide (n ≤ b) = false := decide_eq_false h2
      have hR : Hid (betw n a b = false) := Lib.hid (betw_not.2 (fun h => h2 h.2))
      clear h1 h2
      go_enter Tryz.func61, Tryz.ntmps61
      go_wp2_with fail
      go_ret
      rw [hR.out]
      exact ⟨rfl, rfl⟩
  · have d1 : decide (a ≤ n) = false := decide_eq_false h1
    have hR : Hid (betw n a b = false) := Lib.hid (betw_not.2 (fun h => h1 h.1))
    clear h1
    go_enter Tryz.func61, Tryz.ntmps61
    go_wp2_with fail
    go_ret
    rw [hR.out]
    exact ⟨rfl, rfl⟩

def PosAt (ap : Int) (ps : List Int) (es : List Ev) (l : Nat) : Prop := ∀ (h : l < ps.length) (h' : l < es.length), rightE es[l] = true ∧ (1 ≤ ps[l] ∧ ps[l] ≤ ap) ∧ ∀ m (hm : m + 1 = l), ps[m] ≤ ps[l]
theorem posB_iff (ap : Int) : ∀ (ps : List Int) (es : List Ev) (last : Int), es.length = ps.length →
    (posB ap last ps es = true ↔ ∀ l (h : l < ps.length) (h' : l < es.length), rightE es[l] = true ∧ ps[l] ≤ ap ∧ last ≤ ps[l] ∧ ∀ m (hm : m + 1 = l), ps[m] ≤ ps[l])
  | [], es, last, _ => by simp [posB]
  | p :: ps, [], last, h => by simp at h
  | p :: ps, e :: es, last, h => by
    have ih := posB_iff ap ps es p (by simpa using h)
    simp only [posB, Bool.and_eq_true, decide_eq_true_eq]
    rw [ih]
    constructor
    · rintro ⟨h1, h2, h3, h4⟩ l hl hl'
      cases l with
      | zero => exact ⟨h3, h2, h1, fun m hm => by omega⟩
      | succ l =>
        have := h4 l (by simpa using hl) (by simpa using hl')
        simp only [List.getElem_cons_succ]
        refine ⟨this.1, this.2.1, by omega, fun m hm => ?_⟩
        cases m with
        | zero =>
          have hl0 : l = 0 := by omega
          subst hl0
          exact this.2.2.1
        | succ m =>
          simp only [List.getElem_cons_succ]
          exact this.2.2.2 m (by omega)
    · intro hh
      have h0 := hh 0 (by simp) (by simp)
      refine ⟨h0.2.2.1, h0.2.1, h0.1, fun l hl hl' => ?_⟩
      have hs := hh (l + 1) (by simpa using hl) (by simpa using hl')
      simp only [List.getElem_cons_succ] at hs
      refine ⟨hs.1, hs.2.1, ?_, fun m hm => ?_⟩
      · have hch : ∀ l (hl : l < ps.length), p ≤ ps[l] := by
          intro l
          induction l with
          | zero =>
            intro hl
            have := (hh 1 (by simpa using hl) (by simp at h; simp; omega)).2.2.2 0 rfl
            simpa using this
          | succ l ihl =>
            intro hl
            have h1 := ihl (by omega)
            have := (hh (l + 2) (by simp only [List.length_cons]; omega) (by simp at h; simp only [List.length_cons]; omega)).2.2.2 (l + 1) rfl
            simp only [List.getElem_cons_succ] at this
            omega
        exact hch l hl
      · have := hs.2.2.2 (m + 1) (by omega)
        simpa using this
theorem posAt_iff {ap : Int} {ps : List Int} {es : List Ev} (h : es.length = ps.length) : posB ap 1 ps es = true ↔ ∀ l, PosAt ap ps es l := by
  rw [posB_iff ap ps es 1 h]
  constructor
  · intro hh l h1 h2
    have := hh l h1 h2
    exact ⟨this.1, ⟨this.2.2.1, this.2.1⟩, this.2.2.2⟩
  · intro hh l h1 h2
    have := hh l h1 h2
    exact ⟨this.1, this.2.1.2, this.2.1.1, this.2.2⟩
theorem spOk_iff {ap : Int} {x : Sp} : spOk ap x = true ↔ nameB x.name = true ∧ (∀ l, PosAt ap x.pos x.evs l) ∧ x.evs.length ≠ 0 ∧ x.evs.length = x.pos.length := by
  unfold spOk
  simp only [Bool.and_eq_true, decide_eq_true_eq]
  constructor
  · rintro ⟨h1, h2, h3, h4⟩
    exact ⟨h2, (posAt_iff h4).1 h1, by omega, h4⟩
  · rintro ⟨h1, h2, h3, h4⟩
    exact ⟨(posAt_iff h4).2 h2, h1, by omega, h4⟩
theorem spOk_at {ap : Int} {x : Sp} (h : spOk ap x = true) : nameB x.name = true ∧ (∀ l, PosAt ap x.pos x.evs l) ∧ x.evs.length ≠ 0 ∧ x.evs.length = x.pos.length := spOk_iff.1 h

/-- How two requests must stand. -/
def Near (a r : Ded.En) : Prop := ¬ r.ses < a.ses ∧ (a.ses = r.ses → a.seq < r.seq ∧ r.seq - 8 < a.seq)
theorem near_iff {ap : Int} {rs : List Ded.En} (hok : ∀ i (h : i < rs.length), rqOk ap rs[i] = true) :
    (∀ i j (hj : j < rs.length) (hi : i < j), Near rs[i] rs[j]) ↔ (∀ i (h : i + 1 < rs.length), Rises rs[i] rs[i + 1]) ∧ ∀ r ∈ rs, (Ded.lookL rs r.ses r.seq).2 = 1 := by
  constructor
  · intro hn
    have hri : ∀ i (h : i + 1 < rs.length), Rises rs[i] rs[i + 1] := fun i h => by
      have := hn i (i + 1) h (by omega)
      unfold Near at this
      unfold Rises
      omega
    refine ⟨hri, fun r hr => ?_⟩
    obtain ⟨i, hi, rfl⟩ := List.getElem_of_mem hr
    have hf := find_rise (pairwise_of_step Rises.trans hri) rs[i] hr
    have h1 := rqOk_nums (hok i hi)
    have hh : Ded.highL rs rs[i].ses - 8 < rs[i].seq := by
      rcases high_from (T := rs) rs[i].ses with h | ⟨e, he, h2, h3⟩
      · omega
      · obtain ⟨j, hj, rfl⟩ := List.getElem_of_mem he
        rcases Nat.lt_trichotomy i j with hij | hij | hij
        · have := (hn i j hj hij).2 h2.symm
          omega
        · subst hij; omega
        · have := (hn j i hi hij).2 h2
          omega
    rw [Ded.lookL, if_neg (by omega), hf]
  · rintro ⟨hri, hkn⟩ i j hj hi
    have hp := List.pairwise_iff_getElem.1 (pairwise_of_step Rises.trans hri) i j (by omega) hj hi
    have hk := look_one (hkn rs[i] (List.getElem_mem _))
    have hh := seq_le_high rs[j] (List.getElem_mem hj)
    unfold Rises at hp
    refine ⟨by omega, fun e => ?_⟩
    rw [e] at hk
    omega
theorem rqOk_betw {ap : Int} {r : Ded.En} : rqOk ap r = true ↔ betw r.ses 1 274877906944 = true ∧ betw r.seq 1 274877906944 = true ∧ betw r.o.code 1 2 = true ∧ betw r.o.pos 1 ap = true ∧ ¬ r.o.first < 0 ∧ ¬ r.o.ver < r.o.first ∧ ¬ 274877906944 < r.o.ver := by
  simp only [betw_iff]
  unfold rqOk numB
  simp only [Bool.and_eq_true, Bool.or_eq_true, decide_eq_true_eq]
  omega

set_option maxRecDepth 10000 in
set_option maxHeartbeats 4000000 in
theorem mright_any (w : World) (G : Nat → Prop) (p : Pt) (sv rv : Value) (h : PtAt w G sv rv p) (hz : ∀ x ∈ p.ss, x.name.size ≤ 1000000000 ∧ ∀ e ∈ x.evs, EvSm e) :
    Calls Tryz.prog 22 #[.agg #[.int .i64 p.ap, sv, rv]] w fun e w' => ∃ B : Bool, e = .returned (.bool B) ∧ (B = true ↔ PtOk p) ∧ Below w.heap.size w w' := by
  obtain ⟨S, hS, hSm, hp⟩ := h.ss
  have hR := h.rs
  obtain ⟨A, c, rfl, hA1, hA2⟩ := hS.shape
  obtain ⟨B, d, rfl, hB1, hB2⟩ := hR.shape
  unfold maxLen at hA2 hB2
  have hSl : S.length = p.ss.length := by rw [← hp, List.length_map]
  rw [hSl] at hS hA1 ⊢
  have hB0 : Below w.heap.size w (w.alloc (.cells #[.int .i64 p.ap, .slice A p.ss.length c, .slice B p.rs.length d] 59)) := (Below.refl _ w).alloc (Nat.le_refl _) _
  have hb1 := heap_alloc_new w (.cells #[.int .i64 p.ap, .slice A p.ss.length c, .slice B p.rs.length d] 59)
  have HBT := Lib.hid bet_any
  have HS := Lib.hid hS
  have HR := Lib.hid hR
  have HSm := Lib.hid hSm
  have HP := Lib.hid hp.symm
  have HSl := Lib.hid hSl
  have HSZ := Lib.hid hz
  clear hS hR hSm hp h hz hSl
  go_enter Tryz.func22, Tryz.ntmps22
  go_upto_region 1 with (fail)
  generalize w.alloc (.cells #[.int .i64 p.ap, .slice A p.ss.length c, .slice B p.rs.length d] 59) = w1 at hB0 hb1 ⊢
  obtain ⟨g, hg⟩ : ∃ g, w.heap.size = g := ⟨_, rfl⟩
  have HBB := Lib.hid hB0
  rw [hg] at hb1 ⊢
  have x0 : w1.cell? ⟨g, 0, none⟩ = some (.int .i64 p.ap) := cell_of_row w1 g 0 _ _ _ hb1
  have x1 : w1.cell? ⟨g, 1, none⟩ = some (.slice A p.ss.length c) := cell_of_row w1 g 1 _ _ _ hb1
  have x2 : w1.cell? ⟨g, 2, none⟩ = some (.slice B p.rs.length d) := cell_of_row w1 g 2 _ _ _ hb1
  clear hb1 hB0 hg
  go_wp2_with fail
  refine (HBT.out _ _ _ _).mono ?_
  rintro e wq ⟨rfl, rfl⟩
  cases hap : betw p.ap 0 274877906944
  · have hNO : Hid (¬ PtOk p) := Lib.hid (fun h => betw_not.1 hap h.ap)
    clear hap
    go_wp2_with fail
    go_ret
    exact ⟨false, rfl, ⟨(fun h => by cases h), fun h => absurd h hNO.out⟩, HBB.out⟩
  have HAP := Lib.hid hap
  clear hap
  go_wp2_with fail
  go_loopw [3, 4, 5, 6, 7] (fun i _ _ _ _ wr => ∃ k : Nat, k ≤ p.ss.length ∧ i = .int .i64 k ∧ Below w1.heap.size w1 wr ∧ (∀ j (h : j < p.ss.length), j < k → spOk p.ap p.ss[j] = true) ∧ (∀ j (h : j + 1 < p.ss.length), j + 1 < k → bLt p.ss[j].name p.ss[j + 1].name)) (fun i _ _ _ _ _ => p.ss.length - (Go.RowKit.intOf i).toNat)
  case atStart => exact ⟨0, Nat.zero_le _, rfl, Below.refl _ _, fun j h hj => absurd hj (by omega), fun j h hj => absurd hj (by omega)⟩
  case round =>
    obtain ⟨k, hk, rfl, hB, hall, hup⟩ := hrel
    have x0 := (hB.cell (p := ⟨g, 0, none⟩) (lt_of_cellP x0)).trans x0
    have x1 := (hB.cell (p := ⟨g, 1, none⟩) (lt_of_cellP x1)).trans x1
    have x2 := (hB.cell (p := ⟨g, 2, none⟩) (lt_of_cellP x2)).trans x2
    have HBB := Lib.hid (HBB.out.trans (hB.mono HBB.out.size))
    have HB1 := Lib.hid hB
    have HALL := Lib.hid hall
    have HUP := Lib.hid hup
    clear hB hall hup
    by_cases hlt : k < p.ss.length
    · have hltS : k < S.length := by rw [HSl.out]; exact hlt
      have hrow := HS.out.fresh HBB.out
      obtain ⟨b, o, rfl, _, _, hxx⟩ := hrow.cell_ hltS
      have hs := HSm.out S[k] (List.getElem_mem hltS)
      have hz := HSZ.out p.ss[k] (List.getElem_mem hlt)
      have hspk : p.ss[k] = S[k].sp := by have h0 := HP.out; simp only [h0, List.getElem_map]
      have hprev : ∀ m (h : m < k), wr.cell? ⟨b, o + m * 3, none⟩ = some (.string (p.ss[m]'(by omega)).name) := fun m h => by
        obtain ⟨q2, o2, he, _, _, hyy⟩ := hrow.cell_ (show m < S.length by omega)
        injection he with he
        injection he with he1 he2
        subst he1 he2
        have h0 := HP.out
        have := hyy 0 _ rfl
        simp only [Nat.add_zero] at this
        rw [this]
        simp only [h0, List.getElem_map]
      obtain ⟨x, hx⟩ : ∃ x, S[k] = x := ⟨_, rfl⟩
      rw [hx] at hxx hs hspk
      rw [hspk] at hz
      obtain ⟨⟨n, es, ps⟩, xev, xpv, xo1, xo2⟩ := x
      obtain ⟨E, ec, rfl, hE1, hE2⟩ : ∃ A c, xev = .slice A es.length c ∧ es.length ≤ c ∧ c ≤ maxLen := hs.1.shape
      obtain ⟨U, uc, rfl, hU1, hU2⟩ : ∃ A c, xpv = .slice A ps.length c ∧ ps.length ≤ c ∧ c ≤ maxLen := hs.2.shape
      unfold maxLen at hE2 hU2
      have t0 : wr.cell? ⟨b, o + k * 3, none⟩ = some (.string n) := hxx 0 _ rfl
      have t1 : wr.cell? ⟨b, o + k * 3 + 1, none⟩ = some (.slice E es.length ec) := hxx 1 _ rfl
      have t2 : wr.cell? ⟨b, o + k * 3 + 2, none⟩ = some (.slice U ps.length uc) := hxx 2 _ rfl
      have HSPK : Hid (p.ss[k] = ⟨n, es, ps⟩) := Lib.hid hspk
      have HE1 := Lib.hid (show Sl w G 2 evc (.slice E es.length ec) es from hs.1)
      have HU1 := Lib.hid (show Sl w G 1 intc (.slice U ps.length uc) ps from hs.2)
      have HZN : Hid (n.size ≤ 1000000000 ∧ ∀ e ∈ es, EvSm e) := Lib.hid hz
      have hkI : ((0 : Int) ≤ (k : Int)) ∧ ((k : Int) < (p.ss.length : Int)) := by omega
      obtain ⟨hk1, hk2⟩ := hkI
      have HPR := Lib.hid hprev
      clear hxx hs hz hx hspk hprev hrow
      go_upto_region 7 with (fail)
      have hB2 : Below wr.heap.size wr (wr.alloc (.cells #[.string n, .slice E es.length ec, .slice U ps.length uc] 109)) := (Below.refl _ wr).alloc (Nat.le_refl _) _
      have hb1 := heap_alloc_new wr (.cells #[.string n, .slice E es.length ec, .slice U ps.length uc] 109)
      generalize wr.alloc (.cells #[.string n, .slice E es.length ec, .slice U ps.length uc] 109) = w6 at hB2 hb1 ⊢
      obtain ⟨a1, ha1⟩ : ∃ z, wr.heap.size = z := ⟨_, rfl⟩
      rw [ha1] at hb1 ⊢
      have t0 : w6.cell? ⟨a1, 0, none⟩ = some (.string n) := cell_of_row w6 a1 0 _ _ _ hb1
      have HNMC := Lib.hid (rname_any w6 n HZN.out.1)
      go_wp2_with fail
      refine HNMC.out.mono ?_
      rintro e w7 ⟨rfl, hB3⟩
      have hB27 : Below wr.heap.size wr w7 := hB2.trans (hB3.mono hB2.size)
      have hb1 := (Keeps.of_fresh hB3 (fun _ => False)).grownTo hb1 id
      have t0 : w7.cell? ⟨a1, 0, none⟩ = some (.string n) := cell_of_row w7 a1 0 _ _ _ hb1
      have t1 : w7.cell? ⟨a1, 1, none⟩ = some (.slice E es.length ec) := cell_of_row w7 a1 1 _ _ _ hb1
      have t2 : w7.cell? ⟨a1, 2, none⟩ = some (.slice U ps.length uc) := cell_of_row w7 a1 2 _ _ _ hb1
      have x0 := (hB27.cell (p := ⟨g, 0, none⟩) (lt_of_cellP x0)).trans x0
      have x1 := (hB27.cell (p := ⟨g, 1, none⟩) (lt_of_cellP x1)).trans x1
      have HBB := Lib.hid (HBB.out.trans (hB27.mono HBB.out.size))
      have HB17 := Lib.hid (HB1.out.trans (hB27.mono HB1.out.size))
      have HBR7 := Lib.hid hB27
      clear hb1 ha1 hB2 hB3 hB27
      go_upto_region 8 with (fail)
      go_cut [5, 64] (fun _ s64 wx => ∃ (B8 : Bool) (nq : Nat), s64 = .bool B8 ∧ wx = w7.drewN nq ∧ (B8 = true → ¬ PtOk p) ∧ (B8 = false → nameB n = true ∧ (∀ m (h : m + 1 = k), bLt (p.ss[m]'(by omega)).name p.ss[k].name) ∧ es.length ≠ 0 ∧ es.length = ps.length))
      case first =>
        cases hnm : nameB n
        · have hNO : Hid (¬ PtOk p) := Lib.hid (fun h => by
            have := spOk_at (h.ss _ hlt)
            rw [HSPK.out] at this
            have := this.1
            simp only at this
            rw [hnm] at this
            cases this)
          clear hnm
          go_wp2_with fail
          go_quiet (fail)
          go_wp2_with fail
          go_meet
          exact ⟨true, _, rfl, rfl, fun _ => hNO.out, (fun h => by cases h)⟩
        have HNM := Lib.hid hnm
        clear hnm
        rcases Nat.eq_zero_or_pos k with hk0 | hk0
        · subst hk0
          by_cases h1 : es.length = 0
          · have d1 : ((es.length : Int) == 0) = true := by rw [beq_iff_eq]; omega
            have hNO : Hid (¬ PtOk p) := Lib.hid (fun h => by
              have := spOk_at (h.ss _ hlt)
              rw [HSPK.out] at this
              exact this.2.2.1 h1)
            clear h1
            go_wp2_with fail
            go_quiet (fail)
            go_wp2_with fail
            go_meet
            exact ⟨true, _, rfl, rfl, fun _ => hNO.out, (fun h => by cases h)⟩
          have d1 : ((es.length : Int) == 0) = false := by rw [beq_eq_false_iff_ne]; omega
          by_cases h2 : es.length = ps.length
          · have d2 : ((es.length : Int) != (ps.length : Int)) = false := by simp; omega
            have HOK8 : Hid (es.length ≠ 0 ∧ es.length = ps.length) := Lib.hid ⟨h1, h2⟩
            clear h1 h2
            go_wp2_with fail
            go_quiet (fail)
            go_wp2_with fail
            go_meet
            exact ⟨false, _, rfl, rfl, (fun h => by cases h), fun _ => ⟨HNM.out, (fun m h => by omega), HOK8.out.1, HOK8.out.2⟩⟩
          · have d2 : ((es.length : Int) != (ps.length : Int)) = true := by simp; omega
            have hNO : Hid (¬ PtOk p) := Lib.hid (fun h => by
              have := spOk_at (h.ss _ hlt)
              rw [HSPK.out] at this
              exact h2 this.2.2.2)
            clear h1 h2
            go_wp2_with fail
            go_quiet (fail)
            go_wp2_with fail
            go_meet
            exact ⟨true, _, rfl, rfl, fun _ => hNO.out, (fun h => by cases h)⟩
        · obtain ⟨m, hkm⟩ : ∃ m, k = m + 1 := ⟨k - 1, by omega⟩
          have HKM := Lib.hid hkm
          have hml : m < p.ss.length := by omega
          have hmk : m < k := by omega
          have hpm := HPR.out m hmk
          have hpm := (HBR7.out.cell (p := ⟨b, _, none⟩) (lt_of_cellP hpm)).trans hpm
          obtain ⟨n0, hn0⟩ : ∃ n, (p.ss[m]'hml).name = n := ⟨_, rfl⟩
          rw [hn0] at hpm
          have HN0 := Lib.hid hn0
          have hwm : IntKind.i64.wrap ((k : Int) - 1) = (m : Int) := by rw [IntWalk.i64_in _ (by omega)]; omega
          have hm1 : (0 : Int) ≤ (m : Int) := by omega
          have hm2 : (m : Int) < (p.ss.length : Int) := by omega
          clear hn0 hkm
          cases hlb : Op.bytesLess n0.toList n.toList
          · have hle := leq_not hlb
            have hNO : Hid (¬ PtOk p) := Lib.hid (fun h => by
              have := h.up m (by have := HKM.out; omega)
              unfold bLt at this
              rw [HN0.out, show p.ss[m + 1]'(by have := HKM.out; omega) = ⟨n, es, ps⟩ by rw [← HSPK.out]; simp only [HKM.out], hlb] at this
              cases this)
            clear hlb
            go_wp2_with fail
            go_quiet (fail)
            go_wp2_with fail
            go_meet
            exact ⟨true, _, rfl, rfl, fun _ => hNO.out, (fun h => by cases h)⟩
          · have hle := leq_not hlb
            have HLB : Hid (∀ m' (h : m' + 1 = k), bLt (p.ss[m']'(by omega)).name p.ss[k].name) := Lib.hid (fun m' h => by
              have : m' = m := by have := HKM.out; omega
              subst this
              rw [HN0.out, HSPK.out]
              exact hlb)
            clear hlb
            by_cases h1 : es.length = 0
            · have d1 : ((es.length : Int) == 0) = true := by rw [beq_iff_eq]; omega
              have hNO : Hid (¬ PtOk p) := Lib.hid (fun h => by
                have := spOk_at (h.ss _ hlt)
                rw [HSPK.out] at this
                exact this.2.2.1 h1)
              clear h1
              go_wp2_with fail
              go_quiet (fail)
              go_wp2_with fail
              go_meet
              exact ⟨true, _, rfl, rfl, fun _ => hNO.out, (fun h => by cases h)⟩
            have d1 : ((es.length : Int) == 0) = false := by rw [beq_eq_false_iff_ne]; omega
            by_cases h2 : es.length = ps.length
            · have d2 : ((es.length : Int) != (ps.length : Int)) = false := by simp; omega
              have HOK8 : Hid (es.length ≠ 0 ∧ es.length = ps.length) := Lib.hid ⟨h1, h2⟩
              clear h1 h2
              go_wp2_with fail
              go_quiet (fail)
              go_wp2_with fail
              go_meet
              exact ⟨false, _, rfl, rfl, (fun h => by cases h), fun _ => ⟨HNM.out, HLB.out, HOK8.out.1, HOK8.out.2⟩⟩
            · have d2 : ((es.length : Int) != (ps.length : Int)) = true := by simp; omega
              have hNO : Hid (¬ PtOk p) := Lib.hid (fun h => by
                have := spOk_at (h.ss _ hlt)
                rw [HSPK.out] at this
                exact h2 this.2.2.2)
              clear h1 h2
              go_wp2_with fail
              go_quiet (fail)
              go_wp2_with fail
              go_meet
              exact ⟨true, _, rfl, rfl, fun _ => hNO.out, (fun h => by cases h)⟩
      case rest =>
        obtain ⟨B8, nq, rfl, rfl, hno, hyes⟩ := hcut
        have HBB8 : Hid (Below w.heap.size w (w7.drewN nq)) := Lib.hid (HBB.out.trans ⟨rfl, rfl, rfl, Nat.le_refl _, fun _ _ => rfl⟩)
        have HB18 : Hid (Below w1.heap.size w1 (w7.drewN nq)) := Lib.hid (HB17.out.trans ⟨rfl, rfl, rfl, Nat.le_refl _, fun _ _ => rfl⟩)
        cases B8
        case true =>
          have hNO : Hid (¬ PtOk p) := Lib.hid (hno rfl)
          have HBB := HBB8
          clear hno hyes
          go_wp2_with fail
          go_ret
          exact ⟨false, rfl, ⟨(fun h => by cases h), fun h => absurd h hNO.out⟩, HBB.out⟩
        case false =>
          have HYES := Lib.hid (hyes rfl)
          clear hno hyes
          have x0 : (w7.drewN nq).cell? ⟨g, 0, none⟩ = some (.int .i64 p.ap) := x0
          have t1 : (w7.drewN nq).cell? ⟨a1, 1, none⟩ = some (.slice E es.length ec) := t1
          have t2 : (w7.drewN nq).cell? ⟨a1, 2, none⟩ = some (.slice U ps.length uc) := t2
          generalize w7.drewN nq = w8 at x0 t1 t2 HBB8 HB18 ⊢
          have HLE := Lib.hid HYES.out.2.2.2
          clear x1
          go_wp2_with fail
          go_loopw [6, 7] (fun i _ wr => ∃ j : Nat, j ≤ ps.length ∧ i = .int .i64 j ∧ Below w8.heap.size w8 wr ∧ ∀ l, l < j → PosAt p.ap ps es l) (fun i _ _ => ps.length - (Go.RowKit.intOf i).toNat)
          case atStart => exact ⟨0, Nat.zero_le _, rfl, Below.refl _ _, fun j hj => absurd hj (by omega)⟩
          case round =>
            obtain ⟨j, hj, rfl, hB, hall⟩ := hrel
            have x0 := (hB.cell (p := ⟨g, 0, none⟩) (lt_of_cellP x0)).trans x0
            have t1 := (hB.cell (p := ⟨a1, 1, none⟩) (lt_of_cellP t1)).trans t1
            have t2 := (hB.cell (p := ⟨a1, 2, none⟩) (lt_of_cellP t2)).trans t2
            have HBB := Lib.hid (HBB8.out.trans (hB.mono HBB8.out.size))
            have HB8r := Lib.hid hB
            have HALL2 := Lib.hid hall
            clear hB hall
            by_cases hjl : j < ps.length
            · have hje : j < es.length := by have := HLE.out; omega
              obtain ⟨eb, eo, rfl, _, _, hee⟩ := (HE1.out.fresh HBB.out).cell_ hje
              have hurow := HU1.out.fresh HBB.out
              obtain ⟨ub, uo, rfl, _, _, huu⟩ := hurow.cell_ hjl
              have hes := HZN.out.2 es[j] (List.getElem_mem hje)
              have huprev : ∀ m (h : m < j), wr.cell? ⟨ub, uo + m, none⟩ = some (.int .i64 (ps[m]'(by omega))) := fun m h => by
                obtain ⟨q2, o2, he, _, _, hyy⟩ := hurow.cell_ (show m < ps.length by omega)
                injection he with he
                injection he with he1 he2
                subst he1 he2
                have := hyy 0 _ rfl
                simp only [Nat.add_zero, Nat.mul_one] at this
                exact this
              have e0 := hee 0 _ rfl
              have e1 := hee 1 _ rfl
              have v0 := huu 0 _ rfl
              simp only [Nat.add_zero, Nat.mul_one] at e0 v0
              obtain ⟨ev, hev⟩ : ∃ e, es[j] = e := ⟨_, rfl⟩
              obtain ⟨pj, hpj⟩ : ∃ e, ps[j] = e := ⟨_, rfl⟩
              rw [hev] at e0 e1 hes
              rw [hpj] at v0
              have HEV := Lib.hid hev
              have HPJ := Lib.hid hpj
              have HPV := Lib.hid huprev
              have HRC := Lib.hid (reright_any wr ev hes)
              have hjI : ((0 : Int) ≤ (j : Int)) ∧ ((j : Int) < (ps.length : Int)) ∧ ((j : Int) < (es.length : Int)) := by omega
              obtain ⟨hj1, hj2, hj3⟩ := hjI
              clear hee huu hev hpj hes hurow huprev
              go_wp2_with fail
              refine HRC.out.mono ?_
              rintro e w9 ⟨rfl, hB9⟩
              have x0 := (hB9.cell (p := ⟨g, 0, none⟩) (lt_of_cellP x0)).trans x0
              have t2 := (hB9.cell (p := ⟨a1, 2, none⟩) (lt_of_cellP t2)).trans t2
              have v0 := (hB9.cell (p := ⟨ub, uo + j, none⟩) (lt_of_cellP v0)).trans v0
              have HBB := Lib.hid (HBB.out.trans (hB9.mono HBB.out.size))
              have HB8r := Lib.hid (HB8r.out.trans (hB9.mono HB8r.out.size))
              have HB9 := Lib.hid hB9
              clear hB9 e0 e1
              go_upto_region 14 with (fail)
              go_cut [7, 108] (fun _ s108 wx => ∃ (B14 : Bool) (nq : Nat), s108 = .bool B14 ∧ wx = w9.drewN nq ∧ (B14 = true → ¬ PtOk p) ∧ (B14 = false → PosAt p.ap ps es j))
              case first =>
                have HNO14 : Hid (¬ PosAt p.ap ps es j → ¬ PtOk p) := Lib.hid (fun hn h => hn (by
                  have := spOk_at (h.ss _ hlt)
                  rw [HSPK.out] at this
                  exact this.2.1 j))
                cases hre : rightE ev
                · have hNO : Hid (¬ PtOk p) := Lib.hid (HNO14.out (fun h => by
                    have := (h hjl hje).1
                    rw [HEV.out, hre] at this
                    cases this))
                  clear hre
                  go_wp2_with fail
                  go_quiet (fail)
                  go_wp2_with fail
                  go_meet
                  exact ⟨true, _, rfl, rfl, fun _ => hNO.out, (fun h => by cases h)⟩
                have HRE := Lib.hid hre
                clear hre
                cases hbw : betw pj 1 p.ap
                · have hNO : Hid (¬ PtOk p) := Lib.hid (HNO14.out (fun h => by
                    have := (h hjl hje).2.1
                    rw [HPJ.out, ← betw_iff, hbw] at this
                    cases this))
                  have HC := Lib.hid (fun wz => (bet_any wz pj 1 p.ap).mono fun e w' h => (⟨h.1.trans (by rw [hbw]), h.2.symm⟩ : e = .returned (.bool false) ∧ w' = wz))
                  clear hbw
                  go_wp2_with fail
                  go_quiet (refine Calls.quiet_of_same (HC.out _))
                  go_wp2_with fail
                  go_meet
                  exact ⟨true, _, rfl, rfl, fun _ => hNO.out, (fun h => by cases h)⟩
                have HC := Lib.hid (fun wz => (bet_any wz pj 1 p.ap).mono fun e w' h => (⟨h.1.trans (by rw [hbw]), h.2.symm⟩ : e = .returned (.bool true) ∧ w' = wz))
                have HBW := Lib.hid (betw_iff.1 hbw)
                clear hbw
                rcases Nat.eq_zero_or_pos j with hj0 | hj0
                · have d0 : decide ((0 : Int) < (j : Int)) = false := decide_eq_false (by omega)
                  have d0' : decide (0 < j) = false := decide_eq_false (by omega)
                  have d0'' : ¬ 0 < j := by omega
                  have HJ0 := Lib.hid hj0
                  clear hj0
                  go_wp2_with fail
                  go_quiet (refine Calls.quiet_of_same (HC.out _))
                  go_wp2_with fail
                  go_meet
                  exact ⟨false, _, rfl, rfl, (fun h => by cases h), fun _ h h' => ⟨by rw [HEV.out]; exact HRE.out, by rw [HPJ.out]; exact HBW.out, fun m hm => by have := HJ0.out; omega⟩⟩
                · obtain ⟨m, hjm⟩ : ∃ m, j = m + 1 := ⟨j - 1, by omega⟩
                  have HJM := Lib.hid hjm
                  have hml : m < ps.length := by omega
                  have hmj : m < j := by omega
                  have hpm := HPV.out m hmj
                  have hpm := (HB9.out.cell (p := ⟨ub, _, none⟩) (lt_of_cellP hpm)).trans hpm
                  obtain ⟨pm, hpm'⟩ : ∃ n, ps[m]'hml = n := ⟨_, rfl⟩
                  rw [hpm'] at hpm
                  have HPM := Lib.hid hpm'
                  have hwm : IntKind.i64.wrap ((j : Int) - 1) = (m : Int) := by rw [IntWalk.i64_in _ (by omega)]; omega
                  have hm1 : (0 : Int) ≤ (m : Int) := by omega
                  have hm2 : (m : Int) < (ps.length : Int) := by omega
                  clear hpm' hjm
                  by_cases hlw : pj < pm
                  · have d4 : decide (pj < pm) = true := decide_eq_true hlw
                    have hNO : Hid (¬ PtOk p) := Lib.hid (HNO14.out (fun h => by
                      have := (h hjl hje).2.2 m (by have := HJM.out; omega)
                      rw [HPM.out, HPJ.out] at this
                      omega))
                    clear hlw
                    go_wp2_with fail
                    go_quiet (refine Calls.quiet_of_same (HC.out _))
                    go_wp2_with fail
                    go_meet
                    exact ⟨true, _, rfl, rfl, fun _ => hNO.out, (fun h => by cases h)⟩
                  · have d4 : decide (pj < pm) = false := decide_eq_false hlw
                    have HLW := Lib.hid (show pm ≤ pj by omega)
                    clear hlw
                    go_wp2_with fail
                    go_quiet (refine Calls.quiet_of_same (HC.out _))
                    go_wp2_with fail
                    go_meet
                    exact ⟨false, _, rfl, rfl, (fun h => by cases h), fun _ h h' => ⟨by rw [HEV.out]; exact HRE.out, by rw [HPJ.out]; exact HBW.out, fun m' hm' => by
                      have : m' = m := by have := HJM.out; omega
                      subst this
                      rw [HPM.out, HPJ.out]
                      exact HLW.out⟩⟩
              case rest =>
                obtain ⟨B14, nq, rfl, rfl, hno, hyes⟩ := hcut
                have HBB : Hid (Below w.heap.size w (w9.drewN nq)) := Lib.hid (HBB.out.trans ⟨rfl, rfl, rfl, Nat.le_refl _, fun _ _ => rfl⟩)
                have HB8r : Hid (Below w8.heap.size w8 (w9.drewN nq)) := Lib.hid (HB8r.out.trans ⟨rfl, rfl, rfl, Nat.le_refl _, fun _ _ => rfl⟩)
                cases B14
                case true =>
                  have hNO : Hid (¬ PtOk p) := Lib.hid (hno rfl)
                  clear hno hyes
                  go_wp2_with fail
                  go_ret
                  exact ⟨false, rfl, ⟨(fun h => by cases h), fun h => absurd h hNO.out⟩, HBB.out⟩
                case false =>
                  have HY14 := Lib.hid (hyes rfl)
                  clear hno hyes
                  go_wp2_with fail
                  go_roundw
                  case rel => exact ⟨j + 1, hjl, by go_num, HB8r.out, fun l hl => by
                    by_cases hlj : l = j
                    · subst hlj; exact HY14.out
                    · exact HALL2.out l (by omega)⟩
                  case measure => simp [Go.RowKit.intOf]; omega
            · have hjd : j = ps.length := by omega
              subst hjd
              have HOKK : Hid (spOk p.ap p.ss[k] = true) := Lib.hid (by
                rw [HSPK.out, spOk_iff]
                refine ⟨HYES.out.1, fun l h h' => ?_, HYES.out.2.2.1, HYES.out.2.2.2⟩
                exact HALL2.out l h h h')
              have HB1r := Lib.hid (HB18.out.trans (HB8r.out.mono HB18.out.size))
              go_wp2_with fail
              go_roundw
              case rel => exact ⟨k + 1, hlt, by go_num, HB1r.out, fun j h hj => by
                by_cases hjk : j = k
                · subst hjk; exact HOKK.out
                · exact HALL.out j h (by omega), fun j h hj => by
                by_cases hjk : j + 1 = k
                · subst hjk; exact HYES.out.2.1 j rfl
                · exact HUP.out j h (by omega)⟩
              case measure => simp [Go.RowKit.intOf]; omega
    · have hkd : k = p.ss.length := by omega
      subst hkd
      have HBm := HBB
      obtain ⟨w2, rfl⟩ : ∃ z, z = wr := ⟨_, rfl⟩
      go_wp2_with fail
      go_loopw [8, 9, 10, 11, 12] (fun i _ _ _ _ wr => ∃ k : Nat, k ≤ p.rs.length ∧ i = .int .i64 k ∧ Below w2.heap.size w2 wr ∧ (∀ j (h : j < p.rs.length), j < k → rqOk p.ap p.rs[j] = true) ∧ (∀ a b (h : b < p.rs.length) (hab : a < b), b < k → Near p.rs[a] p.rs[b])) (fun i _ _ _ _ _ => p.rs.length - (Go.RowKit.intOf i).toNat)
      case atStart => exact ⟨0, Nat.zero_le _, rfl, Below.refl _ _, fun j h hj => absurd hj (by omega), fun a b h hab hj => absurd hj (by omega)⟩
      case round =>
        obtain ⟨k, hk, rfl, hB, hall, hnr⟩ := hrel
        have x0 := (hB.cell (p := ⟨g, 0, none⟩) (lt_of_cellP x0)).trans x0
        have x2 := (hB.cell (p := ⟨g, 2, none⟩) (lt_of_cellP x2)).trans x2
        have HBB := Lib.hid (HBm.out.trans (hB.mono HBm.out.size))
        have HB2 := Lib.hid hB
        have HALL2 := Lib.hid hall
        have HNR := Lib.hid hnr
        clear hB hall hnr
        by_cases hlt : k < p.rs.length
        · have hrow := HR.out.fresh HBB.out
          obtain ⟨b, o, rfl, _, _, hxx⟩ := hrow.cell_ hlt
          obtain ⟨r, hr⟩ : ∃ x, p.rs[k] = x := ⟨_, rfl⟩
          rw [hr] at hxx
          have t0 : wr.cell? ⟨b, o + k * 6, none⟩ = some (.int .i64 r.ses) := hxx 0 _ rfl
          have t1 : wr.cell? ⟨b, o + k * 6 + 1, none⟩ = some (.int .i64 r.seq) := hxx 1 _ rfl
          have t2 : wr.cell? ⟨b, o + k * 6 + 2, none⟩ = some (.int .i64 r.o.code) := hxx 2 _ rfl
          have t3 : wr.cell? ⟨b, o + k * 6 + 3, none⟩ = some (.int .i64 r.o.pos) := hxx 3 _ rfl
          have t4 : wr.cell? ⟨b, o + k * 6 + 4, none⟩ = some (.int .i64 r.o.first) := hxx 4 _ rfl
          have t5 : wr.cell? ⟨b, o + k * 6 + 5, none⟩ = some (.int .i64 r.o.ver) := hxx 5 _ rfl
          have HRK := Lib.hid hr
          have hkI : ((0 : Int) ≤ (k : Int)) ∧ ((k : Int) < (p.rs.length : Int)) := by omega
          obtain ⟨hk1, hk2⟩ := hkI
          clear hxx hr hrow
          go_upto_region 20 with (fail)
          have hB3 : Below wr.heap.size wr (wr.alloc (.cells #[.int .i64 r.ses, .int .i64 r.seq, .int .i64 r.o.code, .int .i64 r.o.pos, .int .i64 r.o.first, .int .i64 r.o.ver] 112)) := (Below.refl _ wr).alloc (Nat.le_refl _) _
          have hb1 := heap_alloc_new wr (.cells #[.int .i64 r.ses, .int .i64 r.seq, .int .i64 r.o.code, .int .i64 r.o.pos, .int .i64 r.o.first, .int .i64 r.o.ver] 112)
          generalize wr.alloc (.cells #[.int .i64 r.ses, .int .i64 r.seq, .int .i64 r.o.code, .int .i64 r.o.pos, .int .i64 r.o.first, .int .i64 r.o.ver] 112) = w6 at hB3 hb1 ⊢
          obtain ⟨a1, ha1⟩ : ∃ z, wr.heap.size = z := ⟨_, rfl⟩
          rw [ha1] at hb1 ⊢
          have t0 : w6.cell? ⟨a1, 0, none⟩ = some (.int .i64 r.ses) := cell_of_row w6 a1 0 _ _ _ hb1
          have t1 : w6.cell? ⟨a1, 1, none⟩ = some (.int .i64 r.seq) := cell_of_row w6 a1 1 _ _ _ hb1
          have t2 : w6.cell? ⟨a1, 2, none⟩ = some (.int .i64 r.o.code) := cell_of_row w6 a1 2 _ _ _ hb1
          have t3 : w6.cell? ⟨a1, 3, none⟩ = some (.int .i64 r.o.pos) := cell_of_row w6 a1 3 _ _ _ hb1
          have t4 : w6.cell? ⟨a1, 4, none⟩ = some (.int .i64 r.o.first) := cell_of_row w6 a1 4 _ _ _ hb1
          have t5 : w6.cell? ⟨a1, 5, none⟩ = some (.int .i64 r.o.ver) := cell_of_row w6 a1 5 _ _ _ hb1
          go_upto_region 21 with (fail)
          have hB4 : Below w6.heap.size w6 (w6.alloc (.cells #[.int .i64 r.o.code, .int .i64 r.o.pos, .int .i64 r.o.first, .int .i64 r.o.ver] 35)) := (Below.refl _ w6).alloc (Nat.le_refl _) _
          have hb2 := heap_alloc_new w6 (.cells #[.int .i64 r.o.code, .int .i64 r.o.pos, .int .i64 r.o.first, .int .i64 r.o.ver] 35)
          have hb1 := (Keeps.of_fresh hB4 (fun _ => False)).grownTo hb1 id
          generalize w6.alloc (.cells #[.int .i64 r.o.code, .int .i64 r.o.pos, .int .i64 r.o.first, .int .i64 r.o.ver] 35) = w7 at hB4 hb1 hb2 ⊢
          obtain ⟨a2, ha2⟩ : ∃ z, w6.heap.size = z := ⟨_, rfl⟩
          rw [ha2] at hb2 ⊢
          have hB47 : Below wr.heap.size wr w7 := hB3.trans (hB4.mono hB3.size)
          have x0 := (hB47.cell (p := ⟨g, 0, none⟩) (lt_of_cellP x0)).trans x0
          have x2 := (hB47.cell (p := ⟨g, 2, none⟩) (lt_of_cellP x2)).trans x2
          have t0 : w7.cell? ⟨a1, 0, none⟩ = some (.int .i64 r.ses) := cell_of_row w7 a1 0 _ _ _ hb1
          have t1 : w7.cell? ⟨a1, 1, none⟩ = some (.int .i64 r.seq) := cell_of_row w7 a1 1 _ _ _ hb1
          have t2 : w7.cell? ⟨a2, 0, none⟩ = some (.int .i64 r.o.code) := cell_of_row w7 a2 0 _ _ _ hb2
          have t3 : w7.cell? ⟨a2, 1, none⟩ = some (.int .i64 r.o.pos) := cell_of_row w7 a2 1 _ _ _ hb2
          have t4 : w7.cell? ⟨a2, 2, none⟩ = some (.int .i64 r.o.first) := cell_of_row w7 a2 2 _ _ _ hb2
          have t5 : w7.cell? ⟨a2, 3, none⟩ = some (.int .i64 r.o.ver) := cell_of_row w7 a2 3 _ _ _ hb2
          have HBB := Lib.hid (HBB.out.trans (hB47.mono HBB.out.size))
          have HB27 := Lib.hid (HB2.out.trans (hB47.mono HB2.out.size))
          have HNOR : Hid (¬ rqOk p.ap r = true → ¬ PtOk p) := Lib.hid (fun hn h => hn (by rw [← HRK.out]; exact h.rs k hlt))
          clear hb1 hb2 ha1 ha2 hB3 hB4 hB47
          cases c1 : betw r.ses 1 274877906944
          · have hNO : Hid (¬ PtOk p) := Lib.hid (HNOR.out (fun h => by have := (rqOk_betw.1 h).1; rw [c1] at this; cases this))
            repeat (go_wp2_with fail; refine (HBT.out _ _ _ _).mono ?_; rintro e wq ⟨rfl, rfl⟩)
            go_wp2_with fail
            go_ret
            exact ⟨false, rfl, ⟨(fun h => by cases h), fun h => absurd h hNO.out⟩, HBB.out⟩
          cases c2 : betw r.seq 1 274877906944
          · have hNO : Hid (¬ PtOk p) := Lib.hid (HNOR.out (fun h => by have := (rqOk_betw.1 h).2.1; rw [c2] at this; cases this))
            repeat (go_wp2_with fail; refine (HBT.out _ _ _ _).mono ?_; rintro e wq ⟨rfl, rfl⟩)
            go_wp2_with fail
            go_ret
            exact ⟨false, rfl, ⟨(fun h => by cases h), fun h => absurd h hNO.out⟩, HBB.out⟩
          cases c3 : betw r.o.code 1 2
          · have hNO : Hid (¬ PtOk p) := Lib.hid (HNOR.out (fun h => by have := (rqOk_betw.1 h).2.2.1; rw [c3] at this; cases this))
            repeat (go_wp2_with fail; refine (HBT.out _ _ _ _).mono ?_; rintro e wq ⟨rfl, rfl⟩)
            go_wp2_with fail
            go_ret
            exact ⟨false, rfl, ⟨(fun h => by cases h), fun h => absurd h hNO.out⟩, HBB.out⟩
          cases c4 : betw r.o.pos 1 p.ap
          · have hNO : Hid (¬ PtOk p) := Lib.hid (HNOR.out (fun h => by have := (rqOk_betw.1 h).2.2.2.1; rw [c4] at this; cases this))
            repeat (go_wp2_with fail; refine (HBT.out _ _ _ _).mono ?_; rintro e wq ⟨rfl, rfl⟩)
            go_wp2_with fail
            go_ret
            exact ⟨false, rfl, ⟨(fun h => by cases h), fun h => absurd h hNO.out⟩, HBB.out⟩
          by_cases h5 : r.o.first < 0
          · have c5 : decide (r.o.first < 0) = true := decide_eq_true h5
            have hNO : Hid (¬ PtOk p) := Lib.hid (HNOR.out (fun h => (rqOk_betw.1 h).2.2.2.2.1 h5))
            clear h5
            repeat (go_wp2_with fail; refine (HBT.out _ _ _ _).mono ?_; rintro e wq ⟨rfl, rfl⟩)
            go_wp2_with fail
            go_ret
            exact ⟨false, rfl, ⟨(fun h => by cases h), fun h => absurd h hNO.out⟩, HBB.out⟩
          have c5 : decide (r.o.first < 0) = false := decide_eq_false h5
          by_cases h6 : r.o.ver < r.o.first
          · have c6 : decide (r.o.ver < r.o.first) = true := decide_eq_true h6
            have hNO : Hid (¬ PtOk p) := Lib.hid (HNOR.out (fun h => (rqOk_betw.1 h).2.2.2.2.2.1 h6))
            clear h5 h6
            repeat (go_wp2_with fail; refine (HBT.out _ _ _ _).mono ?_; rintro e wq ⟨rfl, rfl⟩)
            go_wp2_with fail
            go_ret
            exact ⟨false, rfl, ⟨(fun h => by cases h), fun h => absurd h hNO.out⟩, HBB.out⟩
          have c6 : decide (r.o.ver < r.o.first) = false := decide_eq_false h6
          by_cases h7 : 274877906944 < r.o.ver
          · have c7 : decide (274877906944 < r.o.ver) = true := decide_eq_true h7
            have hNO : Hid (¬ PtOk p) := Lib.hid (HNOR.out (fun h => (rqOk_betw.1 h).2.2.2.2.2.2 h7))
            clear h5 h6 h7
            repeat (go_wp2_with fail; refine (HBT.out _ _ _ _).mono ?_; rintro e wq ⟨rfl, rfl⟩)
            go_wp2_with fail
            go_ret
            exact ⟨false, rfl, ⟨(fun h => by cases h), fun h => absurd h hNO.out⟩, HBB.out⟩
          have c7 : decide (274877906944 < r.o.ver) = false := decide_eq_false h7
          have hrq : rqOk p.ap r = true := rqOk_betw.2 ⟨c1, c2, c3, c4, h5, h6, h7⟩
          have HRQ : Hid (rqOk p.ap p.rs[k] = true) := Lib.hid (by rw [HRK.out]; exact hrq)
          have hnum := rqOk_nums hrq
          obtain ⟨⟨hs1, hs2⟩, hq1, hq2⟩ := hnum
          have hw8 : IntKind.i64.wrap (r.seq - 8) = r.seq - 8 := IntWalk.i64_in _ (by omega)
          clear h5 h6 h7 hrq
          repeat (go_wp2_with fail; refine (HBT.out _ _ _ _).mono ?_; rintro e wq ⟨rfl, rfl⟩)
          go_wp2_with fail
          clear c1 c2 c3 c4 c5 c6 c7 t2 t3 t4 t5 x0
          go_loopw [11, 12] (fun i _ wr => ∃ j : Nat, j ≤ k ∧ i = .int .i64 j ∧ Below w7.heap.size w7 wr ∧ ∀ l (hl : l < j) (h : l < p.rs.length), Near p.rs[l] p.rs[k]) (fun i _ _ => k - (Go.RowKit.intOf i).toNat)
          case atStart => exact ⟨0, Nat.zero_le _, rfl, Below.refl _ _, fun l hl => absurd hl (by omega)⟩
          case round =>
            obtain ⟨j, hj, rfl, hB, hall⟩ := hrel
            have x2 := (hB.cell (p := ⟨g, 2, none⟩) (lt_of_cellP x2)).trans x2
            have t0 := (hB.cell (p := ⟨a1, 0, none⟩) (lt_of_cellP t0)).trans t0
            have t1 := (hB.cell (p := ⟨a1, 1, none⟩) (lt_of_cellP t1)).trans t1
            have HBB := Lib.hid (HBB.out.trans (hB.mono HBB.out.size))
            have HB7r := Lib.hid hB
            have HALL3 := Lib.hid hall
            clear hB hall
            by_cases hjl : j < k
            · have hjr : j < p.rs.length := by omega
              obtain ⟨b2, o2, he, _, _, hyy⟩ := (HR.out.fresh HBB.out).cell_ hjr
              injection he with he
              injection he with he1 he2
              subst he1 he2
              obtain ⟨a, ha⟩ : ∃ x, p.rs[j] = x := ⟨_, rfl⟩
              rw [ha] at hyy
              have y0 : wr.cell? ⟨b, o + j * 6, none⟩ = some (.int .i64 a.ses) := hyy 0 _ rfl
              have y1 : wr.cell? ⟨b, o + j * 6 + 1, none⟩ = some (.int .i64 a.seq) := hyy 1 _ rfl
              have y2 : wr.cell? ⟨b, o + j * 6 + 2, none⟩ = some (.int .i64 a.o.code) := hyy 2 _ rfl
              have y3 : wr.cell? ⟨b, o + j * 6 + 3, none⟩ = some (.int .i64 a.o.pos) := hyy 3 _ rfl
              have y4 : wr.cell? ⟨b, o + j * 6 + 4, none⟩ = some (.int .i64 a.o.first) := hyy 4 _ rfl
              have y5 : wr.cell? ⟨b, o + j * 6 + 5, none⟩ = some (.int .i64 a.o.ver) := hyy 5 _ rfl
              have HAJ := Lib.hid ha
              have hjI : ((0 : Int) ≤ (j : Int)) ∧ ((j : Int) < (p.rs.length : Int)) ∧ ((j : Int) < (k : Int)) := by omega
              obtain ⟨hj1, hj2, hj3⟩ := hjI
              clear hyy ha
              go_upto_region 27 with (fail)
              have hB3 : Below wr.heap.size wr (wr.alloc (.cells #[.int .i64 a.ses, .int .i64 a.seq, .int .i64 a.o.code, .int .i64 a.o.pos, .int .i64 a.o.first, .int .i64 a.o.ver] 112)) := (Below.refl _ wr).alloc (Nat.le_refl _) _
              have hb1 := heap_alloc_new wr (.cells #[.int .i64 a.ses, .int .i64 a.seq, .int .i64 a.o.code, .int .i64 a.o.pos, .int .i64 a.o.first, .int .i64 a.o.ver] 112)
              generalize wr.alloc (.cells #[.int .i64 a.ses, .int .i64 a.seq, .int .i64 a.o.code, .int .i64 a.o.pos, .int .i64 a.o.first, .int .i64 a.o.ver] 112) = w8 at hB3 hb1 ⊢
              obtain ⟨a3, ha3⟩ : ∃ z, wr.heap.size = z := ⟨_, rfl⟩
              rw [ha3] at hb1 ⊢
              have t0 := (hB3.cell (p := ⟨a1, 0, none⟩) (lt_of_cellP t0)).trans t0
              have t1 := (hB3.cell (p := ⟨a1, 1, none⟩) (lt_of_cellP t1)).trans t1
              have y0 : w8.cell? ⟨a3, 0, none⟩ = some (.int .i64 a.ses) := cell_of_row w8 a3 0 _ _ _ hb1
              have y1 : w8.cell? ⟨a3, 1, none⟩ = some (.int .i64 a.seq) := cell_of_row w8 a3 1 _ _ _ hb1
              have HBB := Lib.hid (HBB.out.trans (hB3.mono HBB.out.size))
              have HB7r := Lib.hid (HB7r.out.trans (hB3.mono HB7r.out.size))
              have HNON : Hid (¬ Near a r → ¬ PtOk p) := Lib.hid (fun hn h => hn (by
                have := (near_iff h.rs).2 ⟨h.ri, h.kn⟩ j k hlt hjl
                rw [HAJ.out, HRK.out] at this
                exact this))
              have HYN : Hid (Near a r → ∀ l (hl : l < j + 1) (h : l < p.rs.length), Near p.rs[l] p.rs[k]) := Lib.hid (fun hn l hl h => by
                by_cases hlj : l = j
                · subst hlj; rw [HAJ.out, HRK.out]; exact hn
                · exact HALL3.out l (by omega) h)
              clear hb1 hB3 ha3 x2 y2 y3 y4 y5
              by_cases h1 : r.ses < a.ses
              · have c1 : decide (r.ses < a.ses) = true := decide_eq_true h1
                have hNO : Hid (¬ PtOk p) := Lib.hid (HNON.out (fun h => h.1 h1))
                clear h1
                go_wp2_with fail
                exact bodyPost_ret (v := .bool false) (by simp [results, Tryz.results22, go_sem]) rfl (.inl ⟨rfl, hNO.out, HBB.out⟩)
              have c1 : decide (r.ses < a.ses) = false := decide_eq_false h1
              by_cases h2 : a.ses = r.ses
              rotate_left
              · have c2 : (a.ses == r.ses) = false := by simp [h2]
                have HNE := Lib.hid (HYN.out ⟨h1, fun e => absurd e h2⟩)
                clear h1 h2
                go_wp2_with fail
                go_roundw
                case rel => exact ⟨j + 1, hjl, by go_num, HB7r.out, HNE.out⟩
                case measure => simp [Go.RowKit.intOf]; omega
              have c2 : (a.ses == r.ses) = true := by simp [h2]
              by_cases h3 : a.seq < r.seq
              rotate_left
              · have c3 : decide (r.seq ≤ a.seq) = true := decide_eq_true (by omega)
                have hNO : Hid (¬ PtOk p) := Lib.hid (HNON.out (fun h => h3 (h.2 h2).1))
                clear h1 h2 h3
                go_wp2_with fail
                exact bodyPost_ret (v := .bool false) (by simp [results, Tryz.results22, go_sem]) rfl (.inl ⟨rfl, hNO.out, HBB.out⟩)
              have c3 : decide (r.seq ≤ a.seq) = false := decide_eq_false (by omega)
              by_cases h4 : a.seq ≤ r.seq - 8
              · have c4 : decide (a.seq ≤ r.seq - 8) = true := decide_eq_true h4
                have hNO : Hid (¬ PtOk p) := Lib.hid (HNON.out (fun h => by have := (h.2 h2).2; omega))
                clear h1 h2 h3 h4
                go_wp2_with fail
                exact bodyPost_ret (v := .bool false) (by simp [results, Tryz.results22, go_sem]) rfl (.inl ⟨rfl, hNO.out, HBB.out⟩)
              have c4 : decide (a.seq ≤ r.seq - 8) = false := decide_eq_false h4
              have HNE := Lib.hid (HYN.out ⟨h1, fun _ => ⟨h3, by omega⟩⟩)
              clear h1 h2 h3 h4
              go_wp2_with fail
              go_roundw
              case rel => exact ⟨j + 1, hjl, by go_num, HB7r.out, HNE.out⟩
              case measure => simp [Go.RowKit.intOf]; omega
            · have hjd : j = k := by omega
              subst hjd
              have HB2r := Lib.hid (HB27.out.trans (HB7r.out.mono HB27.out.size))
              go_wp2_with fail
              go_roundw
              case rel => exact ⟨j + 1, hlt, by go_num, HB2r.out, fun l h hl => by
                by_cases hlj : l = j
                · subst hlj; exact HRQ.out
                · exact HALL2.out l h (by omega), fun a b h hab hb => by
                by_cases hbj : b = j
                · subst hbj; exact HALL3.out a hab (by omega)
                · exact HNR.out a b h hab (by omega)⟩
              case measure => simp [Go.RowKit.intOf]; omega
        · have hkd : k = p.rs.length := by omega
          subst hkd
          have HYES : Hid (PtOk p) := Lib.hid (by
            have hrs : ∀ i (h : i < p.rs.length), rqOk p.ap p.rs[i] = true := fun i h => HALL2.out i h h
            have hn := (near_iff hrs).1 (fun i j hj hi => HNR.out i j hj hi hj)
            exact ⟨betw_iff.1 HAP.out, fun i h => HALL.out i h h, fun i h => HUP.out i h h, hrs, hn.1, hn.2⟩)
          go_wp2_with fail
          go_ret
          exact ⟨true, rfl, ⟨fun _ => HYES.out, fun _ => rfl⟩, HBB.out⟩
end Go.Proofs.YtlfhokcjbgpjhaaGreatDoor

/- The law's 'light': can parts be gone through? Under the stated premises on sizes. -/
namespace Go.Proofs.YtlfhokcjbgpjhaaGreatDoor
open Go.RowKit Go.Bl
attribute [local go_sem ↓] Go.wp_at_zero Go.wp_at_succ

def SpLt (x : Sp) : Prop := x.name.size ≤ 300 ∧ x.evs.length ≤ 40 ∧ x.pos.length ≤ 60 ∧ ∀ e ∈ x.evs, e.kind.size + e.data.size ≤ 500
structure PtLt (p : Pt) : Prop where
  ss : p.ss.length ≤ 20
  rs : p.rs.length ≤ 60
  ea : ∀ x ∈ p.ss, SpLt x
set_option maxRecDepth 10000 in
set_option maxHeartbeats 4000000 in
theorem light_any (w : World) (G : Nat → Prop) (p : Pt) (sv rv : Value) (h : PtAt w G sv rv p) (hz : ∀ x ∈ p.ss, x.name.size ≤ 140737488351232 ∧ ∀ e ∈ x.evs, e.kind.size ≤ 140737488351232 ∧ e.data.size ≤ 140737488351232) :
    Calls Tryz.prog 20 #[.agg #[.int .i64 p.ap, sv, rv]] w fun e w' => ∃ B : Bool, e = .returned (.bool B) ∧ (B = true → PtLt p) ∧ Below w.heap.size w w' := by
  obtain ⟨S, hS, hSm, hp⟩ := h.ss
  have hR := h.rs
  obtain ⟨A, c, rfl, hA1, hA2⟩ := hS.shape
  obtain ⟨B, d, rfl, hB1, hB2⟩ := hR.shape
  unfold maxLen at hA2 hB2
  have hB0 : Below w.heap.size w (w.alloc (.cells #[.int .i64 p.ap, .slice A S.length c, .slice B p.rs.length d] 52)) := (Below.refl _ w).alloc (Nat.le_refl _) _
  have hb1 := heap_alloc_new w (.cells #[.int .i64 p.ap, .slice A S.length c, .slice B p.rs.length d] 52)
  have HS := Lib.hid hS
  have HSm := Lib.hid hSm
  have HP := Lib.hid hp
  have HSZ := Lib.hid (show ∀ x ∈ S, x.sp.name.size ≤ 140737488351232 ∧ ∀ e ∈ x.sp.evs, e.kind.size ≤ 140737488351232 ∧ e.data.size ≤ 140737488351232 from fun x hx => hz x.sp (by rw [← hp]; exact List.mem_map_of_mem hx))
  clear hS hR hSm hp h hz
  go_enter Tryz.func20, Tryz.ntmps20
  go_upto_region 1 with (fail)
  generalize w.alloc (.cells #[.int .i64 p.ap, .slice A S.length c, .slice B p.rs.length d] 52) = w1 at hB0 hb1 ⊢
  obtain ⟨g, hg⟩ : ∃ g, w.heap.size = g := ⟨_, rfl⟩
  have HBB := Lib.hid hB0
  rw [hg] at hb1 ⊢
  have x1 : w1.cell? ⟨g, 1, none⟩ = some (.slice A S.length c) := cell_of_row w1 g 1 _ _ _ hb1
  have x2 : w1.cell? ⟨g, 2, none⟩ = some (.slice B p.rs.length d) := cell_of_row w1 g 2 _ _ _ hb1
  clear hb1 hB0
  by_cases h1 : 20 < S.length
  · have d1 : decide ((20 : Int) < (S.length : Int)) = true := by simp; omega
    clear h1
    go_wp2_with fail
    go_ret
    exact ⟨false, rfl, (fun h => by cases h), HBB.out⟩
  have d1 : decide ((20 : Int) < (S.length : Int)) = false := by simp; omega
  by_cases h2 : 60 < p.rs.length
  · have d2 : decide ((60 : Int) < (p.rs.length : Int)) = true := by simp; omega
    clear h2
    go_wp2_with fail
    go_ret
    exact ⟨false, rfl, (fun h => by cases h), HBB.out⟩
  have d2 : decide ((60 : Int) < (p.rs.length : Int)) = false := by simp; omega
  go_wp2_with fail
  go_loopw [3, 4, 5] (fun i _ _ wr => ∃ k : Nat, k ≤ S.length ∧ i = .int .i64 k ∧ Below w1.heap.size w1 wr ∧ ∀ j (h : j < S.length), j < k → SpLt S[j].sp) (fun i _ _ _ => S.length - (Go.RowKit.intOf i).toNat)
  case atStart => exact ⟨0, Nat.zero_le _, rfl, Below.refl _ _, fun j h hj => absurd hj (by omega)⟩
  case round =>
    obtain ⟨k, hk, rfl, hB, hall⟩ := hrel
    have x1 := (hB.cell (p := ⟨g, 1, none⟩) (lt_of_cellP x1)).trans x1
    have HBB := Lib.hid (HBB.out.trans (hB.mono HBB.out.size))
    have HB1 := Lib.hid hB
    have HALL := Lib.hid hall
    clear hB hall x2 d1 d2
    by_cases hlt : k < S.length
    · obtain ⟨b, o, rfl, _, _, hxx⟩ := (HS.out.fresh HBB.out).cell_ hlt
      have hs := HSm.out S[k] (List.getElem_mem hlt)
      have hz := HSZ.out S[k] (List.getElem_mem hlt)
      obtain ⟨x, hx⟩ : ∃ x, S[k] = x := ⟨_, rfl⟩
      rw [hx] at hxx hs hz
      obtain ⟨⟨n, es, ps⟩, xev, xpv, xo1, xo2⟩ := x
      obtain ⟨E, ec, rfl, hE1, hE2⟩ : ∃ A c, xev = .slice A es.length c ∧ es.length ≤ c ∧ c ≤ maxLen := hs.1.shape
      obtain ⟨U, uc, rfl, hU1, hU2⟩ : ∃ A c, xpv = .slice A ps.length c ∧ ps.length ≤ c ∧ c ≤ maxLen := hs.2.shape
      unfold maxLen at hE2 hU2
      have u0 : wr.cell? ⟨b, o + k * 3, none⟩ = some (.string n) := hxx 0 _ rfl
      have u1 : wr.cell? ⟨b, o + k * 3 + 1, none⟩ = some (.slice E es.length ec) := hxx 1 _ rfl
      have u2 : wr.cell? ⟨b, o + k * 3 + 2, none⟩ = some (.slice U ps.length uc) := hxx 2 _ rfl
      have HX := Lib.hid (show S[k].sp = ⟨n, es, ps⟩ by rw [hx])
      have HE1 := Lib.hid (show Sl w G 2 evc (.slice E es.length ec) es from hs.1)
      have hzn : n.size ≤ 140737488351232 := hz.1
      have HZE : Hid (∀ e ∈ es, e.kind.size ≤ 140737488351232 ∧ e.data.size ≤ 140737488351232) := Lib.hid hz.2
      have hkI : ((0 : Int) ≤ (k : Int)) ∧ ((k : Int) < (S.length : Int)) := by omega
      obtain ⟨hk1, hk2⟩ := hkI
      clear hxx hs hz hx
      go_upto_region 7 with (fail)
      have hB2 : Below wr.heap.size wr (wr.alloc (.cells #[.string n, .slice E es.length ec, .slice U ps.length uc] 102)) := (Below.refl _ wr).alloc (Nat.le_refl _) _
      have hb1 := heap_alloc_new wr (.cells #[.string n, .slice E es.length ec, .slice U ps.length uc] 102)
      generalize wr.alloc (.cells #[.string n, .slice E es.length ec, .slice U ps.length uc] 102) = w6 at hB2 hb1 ⊢
      obtain ⟨a1, ha1⟩ : ∃ z, wr.heap.size = z := ⟨_, rfl⟩
      rw [ha1] at hb1 ⊢
      have HBB := Lib.hid (HBB.out.trans (hB2.mono HBB.out.size))
      have HB16 := Lib.hid (HB1.out.trans (hB2.mono HB1.out.size))
      have u0 : w6.cell? ⟨a1, 0, none⟩ = some (.string n) := cell_of_row w6 a1 0 _ _ _ hb1
      have u1 : w6.cell? ⟨a1, 1, none⟩ = some (.slice E es.length ec) := cell_of_row w6 a1 1 _ _ _ hb1
      have u2 : w6.cell? ⟨a1, 2, none⟩ = some (.slice U ps.length uc) := cell_of_row w6 a1 2 _ _ _ hb1
      clear hb1 ha1 hB2 x1
      by_cases h3 : 300 < n.size
      · have d3 : decide ((300 : Int) < (n.size : Int)) = true := by simp; omega
        clear h3
        go_wp2_with fail
        go_ret
        exact ⟨false, rfl, (fun h => by cases h), HBB.out⟩
      have d3 : decide ((300 : Int) < (n.size : Int)) = false := by simp; omega
      by_cases h4 : 40 < es.length
      · have d4 : decide ((40 : Int) < (es.length : Int)) = true := by simp; omega
        clear h4
        go_wp2_with fail
        go_ret
        exact ⟨false, rfl, (fun h => by cases h), HBB.out⟩
      have d4 : decide ((40 : Int) < (es.length : Int)) = false := by simp; omega
      by_cases h5 : 60 < ps.length
      · have d5 : decide ((60 : Int) < (ps.length : Int)) = true := by simp; omega
        clear h5
        go_wp2_with fail
        go_ret
        exact ⟨false, rfl, (fun h => by cases h), HBB.out⟩
      have d5 : decide ((60 : Int) < (ps.length : Int)) = false := by simp; omega
      go_wp2_with fail
      go_loopw [5] (fun i wz => ∃ j : Nat, j ≤ es.length ∧ i = .int .i64 j ∧ (∃ q, wz = w6.drewN q) ∧ ∀ l (h : l < es.length), l < j → es[l].kind.size + es[l].data.size ≤ 500) (fun i _ => es.length - (Go.RowKit.intOf i).toNat)
      case atStart => exact ⟨0, Nat.zero_le _, rfl, ⟨0, rfl⟩, fun j h hj => absurd hj (by omega)⟩
      case round =>
        obtain ⟨j, hj, rfl, ⟨q, rfl⟩, hall⟩ := hrel
        have HALL2 := Lib.hid hall
        clear hall
        have HBq : Hid (Below w.heap.size w (w6.drewN q)) := Lib.hid (HBB.out.trans ⟨rfl, rfl, rfl, Nat.le_refl _, fun _ _ => rfl⟩)
        by_cases hjl : j < es.length
        · obtain ⟨b', o', rfl, _, _, hyy⟩ := (HE1.out.fresh HBB.out).cell_ hjl
          have hze := HZE.out es[j] (List.getElem_mem hjl)
          obtain ⟨e, he⟩ : ∃ x, es[j] = x := ⟨_, rfl⟩
          rw [he] at hyy hze
          have v0 : w6.cell? ⟨b', o' + j * 2, none⟩ = some (.string e.kind) := hyy 0 _ rfl
          have v1 : w6.cell? ⟨b', o' + j * 2 + 1, none⟩ = some (.string e.data) := hyy 1 _ rfl
          have HEE := Lib.hid he
          have hjI : ((0 : Int) ≤ (j : Int)) ∧ ((j : Int) < (es.length : Int)) := by omega
          obtain ⟨hj1, hj2⟩ := hjI
          obtain ⟨hz1, hz2⟩ := hze
          have hws : IntKind.i64.wrap ((e.kind.size : Int) + (e.data.size : Int)) = (e.kind.size : Int) + (e.data.size : Int) := IntWalk.i64_in _ (by omega)
          clear hyy he
          by_cases h6 : 500 < e.kind.size + e.data.size
          · have d6 : decide ((500 : Int) < (e.kind.size : Int) + (e.data.size : Int)) = true := by simp; omega
            clear h6
            go_wp2_with fail
            go_quiet (fail)
            go_wp2_with fail
            go_ret
            exact ⟨false, rfl, (fun h => by cases h), HBB.out.trans ⟨rfl, rfl, rfl, Nat.le_refl _, fun _ _ => rfl⟩⟩
          have d6 : decide ((500 : Int) < (e.kind.size : Int) + (e.data.size : Int)) = false := by simp; omega
          have H6 : Hid (es[j].kind.size + es[j].data.size ≤ 500) := Lib.hid (by rw [HEE.out]; omega)
          clear h6
          go_wp2_with fail
          go_quiet (fail)
          go_wp2_with fail
          go_roundw
          case rel => exact ⟨j + 1, hjl, by go_num, ⟨_, rfl⟩, fun l h hl => by
            by_cases hlj : l = j
            · subst hlj; exact H6.out
            · exact HALL2.out l h (by omega)⟩
          case measure => simp [Go.RowKit.intOf]; omega
        · have hjd : j = es.length := by omega
          subst hjd
          have HSP : Hid (SpLt S[k].sp) := Lib.hid (by
            rw [HX.out]
            refine ⟨by simp only; omega, by simp only; omega, by simp only; omega, fun e he => ?_⟩
            obtain ⟨l, hl, rfl⟩ := List.getElem_of_mem he
            exact HALL2.out l hl hl)
          go_wp2_with fail
          go_roundw
          case rel => exact ⟨k + 1, hlt, by go_num, HB16.out.trans ⟨rfl, rfl, rfl, Nat.le_refl _, fun _ _ => rfl⟩, fun l h hl => by
            by_cases hlk : l = k
            · subst hlk; exact HSP.out
            · exact HALL.out l h (by omega)⟩
          case measure => simp [Go.RowKit.intOf]; omega
    · have hkd : k = S.length := by omega
      subst hkd
      have HYES : Hid (PtLt p) := Lib.hid ⟨by rw [← HP.out, List.length_map]; omega, by omega, fun x hx => by
        rw [← HP.out] at hx
        obtain ⟨y, hy, rfl⟩ := List.mem_map.1 hx
        obtain ⟨l, hl, rfl⟩ := List.getElem_of_mem hy
        exact HALL.out l hl hl⟩
      go_wp2_with fail
      go_ret
      exact ⟨true, rfl, fun _ => HYES.out, HBB.out⟩
end Go.Proofs.YtlfhokcjbgpjhaaGreatDoor

/- The law's 'same': are parts the document's? Under the stated premises on sizes. -/
namespace Go.Proofs.YtlfhokcjbgpjhaaGreatDoor
open Go.RowKit Go.Bl
attribute [local go_sem ↓] Go.wp_at_zero Go.wp_at_succ

theorem Pt.eq_iff {p q : Pt} : p = q ↔ p.ap = q.ap ∧ p.ss = q.ss ∧ p.rs = q.rs := by
  obtain ⟨a, b, c⟩ := p
  obtain ⟨a', b', c'⟩ := q
  simp
theorem Sp.eq_iff {x y : Sp} : x = y ↔ x.name = y.name ∧ x.evs = y.evs ∧ x.pos = y.pos := by
  obtain ⟨a, b, c⟩ := x
  obtain ⟨a', b', c'⟩ := y
  simp
theorem En.eq_iff {x y : Ded.En} : x = y ↔ x.ses = y.ses ∧ x.seq = y.seq ∧ x.o = y.o := by
  obtain ⟨a, b, c⟩ := x
  obtain ⟨a', b', c'⟩ := y
  simp
set_option maxRecDepth 10000 in
set_option maxHeartbeats 4000000 in
theorem sameP_any (w : World) (G G' : Nat → Prop) (p q : Pt) (sv rv sv' rv' : Value) (h : PtAt w G sv rv p) (h' : PtAt w G' sv' rv' q) :
    Calls Tryz.prog 24 #[.agg #[.int .i64 p.ap, sv, rv], .agg #[.int .i64 q.ap, sv', rv']] w fun e w' => ∃ B : Bool, e = .returned (.bool B) ∧ (B = true ↔ p = q) ∧ Below w.heap.size w w' := by
  obtain ⟨S, hS, hSm, hp⟩ := h.ss
  obtain ⟨Z, hZ, hZm, hq⟩ := h'.ss
  have hR := h.rs
  have hY := h'.rs
  obtain ⟨A, c, rfl, hA1, hA2⟩ := hS.shape
  obtain ⟨B, d, rfl, hB1, hB2⟩ := hR.shape
  obtain ⟨A', c', rfl, hA1', hA2'⟩ := hZ.shape
  obtain ⟨B', d', rfl, hB1', hB2'⟩ := hY.shape
  unfold maxLen at hA2 hB2 hA2' hB2'
  have hB0 : Below w.heap.size w ((w.alloc (.cells #[.int .i64 p.ap, .slice A S.length c, .slice B p.rs.length d] 52)).alloc (.cells #[.int .i64 q.ap, .slice A' Z.length c', .slice B' q.rs.length d'] 59)) := ((Below.refl _ w).alloc (Nat.le_refl _) _).alloc (by simp) _
  have hb1 : ((w.alloc (.cells #[.int .i64 p.ap, .slice A S.length c, .slice B p.rs.length d] 52)).alloc (.cells #[.int .i64 q.ap, .slice A' Z.length c', .slice B' q.rs.length d'] 59)).heap[w.heap.size]? = some (.cells #[.int .i64 p.ap, .slice A S.length c, .slice B p.rs.length d] 52 (0, 0)) := (Below.heap_alloc _ _ _ (by simp)).trans (heap_alloc_new w _)
  have hb2 := heap_alloc_new (w.alloc (.cells #[.int .i64 p.ap, .slice A S.length c, .slice B p.rs.length d] 52)) (.cells #[.int .i64 q.ap, .slice A' Z.length c', .slice B' q.rs.length d'] 59)
  rw [World.size_alloc] at hb2
  have HS := Lib.hid hS
  have HR := Lib.hid hR
  have HZ := Lib.hid hZ
  have HY := Lib.hid hY
  have HSm := Lib.hid hSm
  have HZm := Lib.hid hZm
  have HP := Lib.hid hp
  have HQ := Lib.hid hq
  clear hS hR hZ hY hSm hZm hp hq h h'
  go_enter Tryz.func24, Tryz.ntmps24
  go_upto_region 1 with (fail)
  generalize (w.alloc (.cells #[.int .i64 p.ap, .slice A S.length c, .slice B p.rs.length d] 52)).alloc (.cells #[.int .i64 q.ap, .slice A' Z.length c', .slice B' q.rs.length d'] 59) = w1 at hB0 hb1 hb2 ⊢
  obtain ⟨g, hg⟩ : ∃ g, w.heap.size = g := ⟨_, rfl⟩
  have HBB := Lib.hid hB0
  rw [hg] at hb1 hb2 ⊢
  have HG1 := Lib.hid hb1
  have HG2 := Lib.hid hb2
  have x0 : w1.cell? ⟨g, 0, none⟩ = some (.int .i64 p.ap) := cell_of_row w1 g 0 _ _ _ hb1
  have x1 : w1.cell? ⟨g, 1, none⟩ = some (.slice A S.length c) := cell_of_row w1 g 1 _ _ _ hb1
  have x2 : w1.cell? ⟨g, 2, none⟩ = some (.slice B p.rs.length d) := cell_of_row w1 g 2 _ _ _ hb1
  have y0 : w1.cell? ⟨g + 1, 0, none⟩ = some (.int .i64 q.ap) := cell_of_row w1 _ 0 _ _ _ hb2
  have y1 : w1.cell? ⟨g + 1, 1, none⟩ = some (.slice A' Z.length c') := cell_of_row w1 _ 1 _ _ _ hb2
  have y2 : w1.cell? ⟨g + 1, 2, none⟩ = some (.slice B' q.rs.length d') := cell_of_row w1 _ 2 _ _ _ hb2
  clear hb1 hb2 hB0
  by_cases h1 : p.ap = q.ap
  rotate_left
  · have d1 : (p.ap != q.ap) = true := by simp [h1]
    have hNO : Hid (¬ p = q) := Lib.hid (fun e => h1 (by rw [e]))
    clear h1
    go_wp2_with fail
    go_ret
    exact ⟨false, rfl, ⟨(fun h => by cases h), fun h => absurd h hNO.out⟩, HBB.out⟩
  have d1 : (p.ap != q.ap) = false := by simp [h1]
  have H1 := Lib.hid h1
  clear h1
  by_cases h2 : S.length = Z.length
  rotate_left
  · have d2 : ((S.length : Int) != (Z.length : Int)) = true := by simp; omega
    have hNO : Hid (¬ p = q) := Lib.hid (fun e => h2 (by have h3 := HP.out; rw [e, ← HQ.out] at h3; have := congrArg List.length h3; simpa using this))
    clear h2
    go_wp2_with fail
    go_ret
    exact ⟨false, rfl, ⟨(fun h => by cases h), fun h => absurd h hNO.out⟩, HBB.out⟩
  have d2 : ((S.length : Int) != (Z.length : Int)) = false := by simp; omega
  have H2 := Lib.hid h2
  clear h2
  by_cases h3 : p.rs.length = q.rs.length
  rotate_left
  · have d3 : ((p.rs.length : Int) != (q.rs.length : Int)) = true := by simp; omega
    have hNO : Hid (¬ p = q) := Lib.hid (fun e => h3 (by rw [e]))
    clear h3
    go_wp2_with fail
    go_ret
    exact ⟨false, rfl, ⟨(fun h => by cases h), fun h => absurd h hNO.out⟩, HBB.out⟩
  have d3 : ((p.rs.length : Int) != (q.rs.length : Int)) = false := by simp; omega
  have H3 := Lib.hid h3
  clear h3
  go_wp2_with fail
  go_loopw [5, 6, 7] (fun i _ _ wr => ∃ k : Nat, k ≤ S.length ∧ i = .int .i64 k ∧ Below w1.heap.size w1 wr ∧ ∀ j (h : j < S.length) (h' : j < Z.length), j < k → S[j].sp = Z[j].sp) (fun i _ _ _ => S.length - (Go.RowKit.intOf i).toNat)
  case atStart => exact ⟨0, Nat.zero_le _, rfl, Below.refl _ _, fun j h h' hj => absurd hj (by omega)⟩
  case round =>
    obtain ⟨k, hk, rfl, hB, hall⟩ := hrel
    have x1 := (hB.cell (p := ⟨g, 1, none⟩) (lt_of_cellP x1)).trans x1
    have y1 := (hB.cell (p := ⟨g + 1, 1, none⟩) (lt_of_cellP y1)).trans y1
    have x2 := (hB.cell (p := ⟨g, 2, none⟩) (lt_of_cellP x2)).trans x2
    have y2 := (hB.cell (p := ⟨g + 1, 2, none⟩) (lt_of_cellP y2)).trans y2
    have HBB := Lib.hid (HBB.out.trans (hB.mono HBB.out.size))
    have HB1 := Lib.hid hB
    have HALL := Lib.hid hall
    clear hB hall x0 y0 d1 d2 d3
    by_cases hlt : k < S.length
    · have hlt2 : k < Z.length := by have := H2.out; omega
      obtain ⟨b, o, rfl, _, _, hxx⟩ := (HS.out.fresh HBB.out).cell_ hlt
      obtain ⟨b', o', rfl, _, _, hyy⟩ := (HZ.out.fresh HBB.out).cell_ hlt2
      have hs := HSm.out S[k] (List.getElem_mem hlt)
      have hz := HZm.out Z[k] (List.getElem_mem hlt2)
      obtain ⟨x, hx⟩ : ∃ x, S[k] = x := ⟨_, rfl⟩
      obtain ⟨y, hy⟩ : ∃ x, Z[k] = x := ⟨_, rfl⟩
      rw [hx] at hxx hs
      rw [hy] at hyy hz
      obtain ⟨⟨n, es, ps⟩, xev, xpv, xo1, xo2⟩ := x
      obtain ⟨⟨m, fs, qs⟩, yev, ypv, yo1, yo2⟩ := y
      obtain ⟨E, ec, rfl, hE1, hE2⟩ : ∃ A c, xev = .slice A es.length c ∧ es.length ≤ c ∧ c ≤ maxLen := hs.1.shape
      obtain ⟨U, uc, rfl, hU1, hU2⟩ : ∃ A c, xpv = .slice A ps.length c ∧ ps.length ≤ c ∧ c ≤ maxLen := hs.2.shape
      obtain ⟨E', ec', rfl, hE1', hE2'⟩ : ∃ A c, yev = .slice A fs.length c ∧ fs.length ≤ c ∧ c ≤ maxLen := hz.1.shape
      obtain ⟨U', uc', rfl, hU1', hU2'⟩ : ∃ A c, ypv = .slice A qs.length c ∧ qs.length ≤ c ∧ c ≤ maxLen := hz.2.shape
      have u0 : wr.cell? ⟨b, o + k * 3, none⟩ = some (.string n) := hxx 0 _ rfl
      have u1 : wr.cell? ⟨b, o + k * 3 + 1, none⟩ = some (.slice E es.length ec) := hxx 1 _ rfl
      have u2 : wr.cell? ⟨b, o + k * 3 + 2, none⟩ = some (.slice U ps.length uc) := hxx 2 _ rfl
      have v0 : wr.cell? ⟨b', o' + k * 3, none⟩ = some (.string m) := hyy 0 _ rfl
      have v1 : wr.cell? ⟨b', o' + k * 3 + 1, none⟩ = some (.slice E' fs.length ec') := hyy 1 _ rfl
      have v2 : wr.cell? ⟨b', o' + k * 3 + 2, none⟩ = some (.slice U' qs.length uc') := hyy 2 _ rfl
      have HX := Lib.hid (show S[k].sp = ⟨n, es, ps⟩ by rw [hx])
      have HYK := Lib.hid (show Z[k].sp = ⟨m, fs, qs⟩ by rw [hy])
      have HNE : Hid (¬ S[k].sp = Z[k].sp → ¬ p = q) := Lib.hid (fun hne e => hne (by
        have h3 := HP.out
        rw [e, ← HQ.out] at h3
        have := congrArg (fun l => l[k]?) h3
        simp only [List.getElem?_map, List.getElem?_eq_getElem hlt, List.getElem?_eq_getElem hlt2, Option.map_some, Option.some.injEq] at this
        exact this))
      have HE1 := Lib.hid (show Sl w G 2 evc (.slice E es.length ec) es from hs.1)
      have HE2 := Lib.hid (show Sl w G' 2 evc (.slice E' fs.length ec') fs from hz.1)
      have HI1 := Lib.hid (show Sl w G 1 intc (.slice U ps.length uc) ps from hs.2)
      have HI2 := Lib.hid (show Sl w G' 1 intc (.slice U' qs.length uc') qs from hz.2)
      have hkI : ((0 : Int) ≤ (k : Int)) ∧ ((k : Int) < (S.length : Int)) ∧ ((k : Int) < (Z.length : Int)) := by omega
      obtain ⟨hk1, hk2, hk3⟩ := hkI
      clear hxx hyy hs hz hx hy
      go_upto_region 7 with (fail)
      have hB2 : Below wr.heap.size wr (wr.alloc (.cells #[.string n, .slice E es.length ec, .slice U ps.length uc] 102)) := (Below.refl _ wr).alloc (Nat.le_refl _) _
      have hb1 := heap_alloc_new wr (.cells #[.string n, .slice E es.length ec, .slice U ps.length uc] 102)
      generalize wr.alloc (.cells #[.string n, .slice E es.length ec, .slice U ps.length uc] 102) = w6 at hB2 hb1 ⊢
      obtain ⟨a1, ha1⟩ : ∃ z, wr.heap.size = z := ⟨_, rfl⟩
      rw [ha1] at hb1 ⊢
      have y1' := (hB2.cell (p := ⟨g + 1, 1, none⟩) (lt_of_cellP y1)).trans y1
      have v0 := (hB2.cell (p := ⟨b', o' + k * 3, none⟩) (lt_of_cellP v0)).trans v0
      have v1 := (hB2.cell (p := ⟨b', o' + k * 3 + 1, none⟩) (lt_of_cellP v1)).trans v1
      have v2 := (hB2.cell (p := ⟨b', o' + k * 3 + 2, none⟩) (lt_of_cellP v2)).trans v2
      have HB6 := Lib.hid (HBB.out.trans (hB2.mono HBB.out.size))
      have HB16 := Lib.hid (HB1.out.trans (hB2.mono HB1.out.size))
      clear ha1 hB2
      go_upto_region 8 with (fail)
      have hB7 : Below w6.heap.size w6 (w6.alloc (.cells #[.string m, .slice E' fs.length ec', .slice U' qs.length uc'] 109)) := (Below.refl _ w6).alloc (Nat.le_refl _) _
      have hb2 := heap_alloc_new w6 (.cells #[.string m, .slice E' fs.length ec', .slice U' qs.length uc'] 109)
      have hb1 := (Keeps.of_fresh hB7 (fun _ => False)).grownTo hb1 id
      generalize w6.alloc (.cells #[.string m, .slice E' fs.length ec', .slice U' qs.length uc'] 109) = w7 at hB7 hb2 hb1 ⊢
      obtain ⟨a2, ha2⟩ : ∃ z, w6.heap.size = z := ⟨_, rfl⟩
      rw [ha2] at hb2 ⊢
      have HB7 := Lib.hid (HB6.out.trans (hB7.mono HB6.out.size))
      have HB17 := Lib.hid (HB16.out.trans (hB7.mono HB16.out.size))
      have u0 : w7.cell? ⟨a1, 0, none⟩ = some (.string n) := cell_of_row w7 a1 0 _ _ _ hb1
      have u1 : w7.cell? ⟨a1, 1, none⟩ = some (.slice E es.length ec) := cell_of_row w7 a1 1 _ _ _ hb1
      have u2 : w7.cell? ⟨a1, 2, none⟩ = some (.slice U ps.length uc) := cell_of_row w7 a1 2 _ _ _ hb1
      have v0 : w7.cell? ⟨a2, 0, none⟩ = some (.string m) := cell_of_row w7 a2 0 _ _ _ hb2
      have v1 : w7.cell? ⟨a2, 1, none⟩ = some (.slice E' fs.length ec') := cell_of_row w7 a2 1 _ _ _ hb2
      have v2 : w7.cell? ⟨a2, 2, none⟩ = some (.slice U' qs.length uc') := cell_of_row w7 a2 2 _ _ _ hb2
      clear hb1 hb2 ha2 hB7 y1'
      by_cases h1 : n = m
      rotate_left
      · have e1 : ¬ n.toList = m.toList := fun e => h1 (by rw [Idx.bytes_inj] at e; exact e)
        have e2 : (n.toList == m.toList) = false := by rw [beq_eq_false_iff_ne]; exact e1
        have hNO : Hid (¬ p = q) := Lib.hid (HNE.out (fun e => h1 (by rw [HX.out, HYK.out] at e; injection e)))
        have HBB := HB7
        clear h1
        go_wp2_with fail
        go_ret
        exact ⟨false, rfl, ⟨(fun h => by cases h), fun h => absurd h hNO.out⟩, HBB.out⟩
      have HE := Lib.hid h1
      subst h1
      have HSE := Lib.hid (Idx.same_any w7 G G' _ _ es fs (HE1.out.fresh HB7.out) (HE2.out.fresh HB7.out))
      go_wp2_with fail
      refine HSE.out.mono ?_
      rintro e w8 ⟨rfl, nq, rfl⟩
      have HB8 : Hid (Below w.heap.size w (w7.drewN nq)) := Lib.hid (HB7.out.trans ⟨rfl, rfl, rfl, Nat.le_refl _, fun _ _ => rfl⟩)
      have HB18 : Hid (Below w1.heap.size w1 (w7.drewN nq)) := Lib.hid (HB17.out.trans ⟨rfl, rfl, rfl, Nat.le_refl _, fun _ _ => rfl⟩)
      by_cases h2 : es = fs
      rotate_left
      · have d2 : decide (es = fs) = false := decide_eq_false h2
        have hNO : Hid (¬ p = q) := Lib.hid (HNE.out (fun e => h2 (by rw [HX.out, HYK.out] at e; injection e)))
        have HBB := HB8
        clear h2
        go_wp2_with fail
        go_ret
        exact ⟨false, rfl, ⟨(fun h => by cases h), fun h => absurd h hNO.out⟩, HBB.out⟩
      have d2 : decide (es = fs) = true := decide_eq_true h2
      have H22 := Lib.hid h2
      clear h2
      have HSI := Lib.hid (Ded.sameInts_any (w7.drewN nq) G G' _ _ ps qs (HI1.out.fresh HB8.out) (HI2.out.fresh HB8.out))
      go_wp2_with fail
      refine HSI.out.mono ?_
      rintro e w9 ⟨rfl, nr, rfl⟩
      have HB9 : Hid (Below w.heap.size w (w7.drewN (nq + nr))) := Lib.hid (HB7.out.trans ⟨rfl, rfl, rfl, Nat.le_refl _, fun _ _ => rfl⟩)
      have HB19 : Hid (Below w1.heap.size w1 (w7.drewN (nq + nr))) := Lib.hid (HB17.out.trans ⟨rfl, rfl, rfl, Nat.le_refl _, fun _ _ => rfl⟩)
      by_cases h3 : ps = qs
      rotate_left
      · have d3 : decide (ps = qs) = false := decide_eq_false h3
        have hNO : Hid (¬ p = q) := Lib.hid (HNE.out (fun e => h3 (by rw [HX.out, HYK.out] at e; injection e)))
        have HBB := HB9
        clear h3
        go_wp2_with fail
        go_ret
        exact ⟨false, rfl, ⟨(fun h => by cases h), fun h => absurd h hNO.out⟩, HBB.out⟩
      have d3 : decide (ps = qs) = true := decide_eq_true h3
      have HEQ : Hid (S[k].sp = Z[k].sp) := Lib.hid (by rw [HX.out, HYK.out, H22.out, h3])
      clear h3
      go_wp2_with fail
      go_roundw
      case rel => exact ⟨k + 1, hlt, by go_num, HB19.out, fun j h h' hj => by
        by_cases hjk : j = k
        · subst hjk; exact HEQ.out
        · exact HALL.out j h h' (by omega)⟩
      case measure => simp [Go.RowKit.intOf]; omega
    · have hkd : k = S.length := by omega
      subst hkd
      have HSS : Hid (p.ss = q.ss) := Lib.hid (by
        rw [← HP.out, ← HQ.out]
        refine List.ext_getElem (by simp only [List.length_map]; exact H2.out) (fun j h h' => ?_)
        simp only [List.length_map] at h h'
        simp only [List.getElem_map]
        exact HALL.out j h h' h)
      have HBm := HBB
      have HB1m := HB1
      obtain ⟨w2, rfl⟩ : ∃ z, z = wr := ⟨_, rfl⟩
      go_wp2_with fail
      go_loopw [8, 9, 10] (fun i _ _ wr => ∃ k : Nat, k ≤ p.rs.length ∧ i = .int .i64 k ∧ Below w2.heap.size w2 wr ∧ ∀ j (h : j < p.rs.length) (h' : j < q.rs.length), j < k → p.rs[j] = q.rs[j]) (fun i _ _ _ => p.rs.length - (Go.RowKit.intOf i).toNat)
      case atStart => exact ⟨0, Nat.zero_le _, rfl, Below.refl _ _, fun j h h' hj => absurd hj (by omega)⟩
      case round =>
        obtain ⟨k, hk, rfl, hB, hall⟩ := hrel
        have x1 := (hB.cell (p := ⟨g, 2, none⟩) (lt_of_cellP x2)).trans x2
        have y1 := (hB.cell (p := ⟨g + 1, 2, none⟩) (lt_of_cellP y2)).trans y2
        have HBB := Lib.hid (HBm.out.trans (hB.mono HBm.out.size))
        have HB2 := Lib.hid hB
        have HALL2 := Lib.hid hall
        clear hB hall
        by_cases hlt : k < p.rs.length
        · have hlt2 : k < q.rs.length := by have := H3.out; omega
          obtain ⟨b, o, rfl, _, _, hxx⟩ := (HR.out.fresh HBB.out).cell_ hlt
          obtain ⟨b', o', rfl, _, _, hyy⟩ := (HY.out.fresh HBB.out).cell_ hlt2
          obtain ⟨x, hx⟩ : ∃ x, p.rs[k] = x := ⟨_, rfl⟩
          obtain ⟨y, hy⟩ : ∃ x, q.rs[k] = x := ⟨_, rfl⟩
          rw [hx] at hxx
          rw [hy] at hyy
          obtain ⟨n, es, ps⟩ := x
          obtain ⟨m, fs, qs⟩ := y
          obtain ⟨o1, o2, o3, o4⟩ := ps
          obtain ⟨q1, q2, q3, q4⟩ := qs
          have u0 : wr.cell? ⟨b, o + k * 6, none⟩ = some (.int .i64 n) := hxx 0 _ rfl
          have u1 : wr.cell? ⟨b, o + k * 6 + 1, none⟩ = some (.int .i64 es) := hxx 1 _ rfl
          have u2 : wr.cell? ⟨b, o + k * 6 + 2, none⟩ = some (.int .i64 o1) := hxx 2 _ rfl
          have u3 : wr.cell? ⟨b, o + k * 6 + 3, none⟩ = some (.int .i64 o2) := hxx 3 _ rfl
          have u4 : wr.cell? ⟨b, o + k * 6 + 4, none⟩ = some (.int .i64 o3) := hxx 4 _ rfl
          have u5 : wr.cell? ⟨b, o + k * 6 + 5, none⟩ = some (.int .i64 o4) := hxx 5 _ rfl
          have v0 : wr.cell? ⟨b', o' + k * 6, none⟩ = some (.int .i64 m) := hyy 0 _ rfl
          have v1 : wr.cell? ⟨b', o' + k * 6 + 1, none⟩ = some (.int .i64 fs) := hyy 1 _ rfl
          have v2 : wr.cell? ⟨b', o' + k * 6 + 2, none⟩ = some (.int .i64 q1) := hyy 2 _ rfl
          have v3 : wr.cell? ⟨b', o' + k * 6 + 3, none⟩ = some (.int .i64 q2) := hyy 3 _ rfl
          have v4 : wr.cell? ⟨b', o' + k * 6 + 4, none⟩ = some (.int .i64 q3) := hyy 4 _ rfl
          have v5 : wr.cell? ⟨b', o' + k * 6 + 5, none⟩ = some (.int .i64 q4) := hyy 5 _ rfl
          have HX := Lib.hid hx
          have HYK := Lib.hid hy
          have HNE : Hid (¬ p.rs[k] = q.rs[k] → ¬ p = q) := Lib.hid (fun hne e => hne (by simp only [e]))
          have hkI : ((0 : Int) ≤ (k : Int)) ∧ ((k : Int) < (p.rs.length : Int)) ∧ ((k : Int) < (q.rs.length : Int)) := by omega
          obtain ⟨hk1, hk2, hk3⟩ := hkI
          clear hxx hyy hx hy
          go_upto_region 14 with (fail)
          have hB2 : Below wr.heap.size wr (wr.alloc (.cells #[.int .i64 n, .int .i64 es, .int .i64 o1, .int .i64 o2, .int .i64 o3, .int .i64 o4] 105)) := (Below.refl _ wr).alloc (Nat.le_refl _) _
          have hb1 := heap_alloc_new wr (.cells #[.int .i64 n, .int .i64 es, .int .i64 o1, .int .i64 o2, .int .i64 o3, .int .i64 o4] 105)
          generalize wr.alloc (.cells #[.int .i64 n, .int .i64 es, .int .i64 o1, .int .i64 o2, .int .i64 o3, .int .i64 o4] 105) = w6 at hB2 hb1 ⊢
          obtain ⟨a1, ha1⟩ : ∃ z, wr.heap.size = z := ⟨_, rfl⟩
          rw [ha1] at hb1 ⊢
          have y1' := (hB2.cell (p := ⟨g + 1, 2, none⟩) (lt_of_cellP y1)).trans y1
          have v0 := (hB2.cell (p := ⟨b', o' + k * 6, none⟩) (lt_of_cellP v0)).trans v0
          have v1 := (hB2.cell (p := ⟨b', o' + k * 6 + 1, none⟩) (lt_of_cellP v1)).trans v1
          have v2 := (hB2.cell (p := ⟨b', o' + k * 6 + 2, none⟩) (lt_of_cellP v2)).trans v2
          have v3 := (hB2.cell (p := ⟨b', o' + k * 6 + 3, none⟩) (lt_of_cellP v3)).trans v3
          have v4 := (hB2.cell (p := ⟨b', o' + k * 6 + 4, none⟩) (lt_of_cellP v4)).trans v4
          have v5 := (hB2.cell (p := ⟨b', o' + k * 6 + 5, none⟩) (lt_of_cellP v5)).trans v5
          have HB6 := Lib.hid (HBB.out.trans (hB2.mono HBB.out.size))
          have HB26 := Lib.hid (HB2.out.trans (hB2.mono HB2.out.size))
          clear ha1 hB2
          go_upto_region 15 with (fail)
          have hB7 : Below w6.heap.size w6 (w6.alloc (.cells #[.int .i64 m, .int .i64 fs, .int .i64 q1, .int .i64 q2, .int .i64 q3, .int .i64 q4] 112)) := (Below.refl _ w6).alloc (Nat.le_refl _) _
          have hb2 := heap_alloc_new w6 (.cells #[.int .i64 m, .int .i64 fs, .int .i64 q1, .int .i64 q2, .int .i64 q3, .int .i64 q4] 112)
          have hb1 := (Keeps.of_fresh hB7 (fun _ => False)).grownTo hb1 id
          generalize w6.alloc (.cells #[.int .i64 m, .int .i64 fs, .int .i64 q1, .int .i64 q2, .int .i64 q3, .int .i64 q4] 112) = w7 at hB7 hb2 hb1 ⊢
          obtain ⟨a2, ha2⟩ : ∃ z, w6.heap.size = z := ⟨_, rfl⟩
          rw [ha2] at hb2 ⊢
          have HBB := Lib.hid (HB6.out.trans (hB7.mono HB6.out.size))
          have HB27 := Lib.hid (HB26.out.trans (hB7.mono HB26.out.size))
          have u0 : w7.cell? ⟨a1, 0, none⟩ = some (.int .i64 n) := cell_of_row w7 a1 0 _ _ _ hb1
          have u1 : w7.cell? ⟨a1, 1, none⟩ = some (.int .i64 es) := cell_of_row w7 a1 1 _ _ _ hb1
          have u2 : w7.cell? ⟨a1, 2, none⟩ = some (.int .i64 o1) := cell_of_row w7 a1 2 _ _ _ hb1
          have u3 : w7.cell? ⟨a1, 3, none⟩ = some (.int .i64 o2) := cell_of_row w7 a1 3 _ _ _ hb1
          have u4 : w7.cell? ⟨a1, 4, none⟩ = some (.int .i64 o3) := cell_of_row w7 a1 4 _ _ _ hb1
          have u5 : w7.cell? ⟨a1, 5, none⟩ = some (.int .i64 o4) := cell_of_row w7 a1 5 _ _ _ hb1
          have v0 : w7.cell? ⟨a2, 0, none⟩ = some (.int .i64 m) := cell_of_row w7 a2 0 _ _ _ hb2
          have v1 : w7.cell? ⟨a2, 1, none⟩ = some (.int .i64 fs) := cell_of_row w7 a2 1 _ _ _ hb2
          have v2 : w7.cell? ⟨a2, 2, none⟩ = some (.int .i64 q1) := cell_of_row w7 a2 2 _ _ _ hb2
          have v3 : w7.cell? ⟨a2, 3, none⟩ = some (.int .i64 q2) := cell_of_row w7 a2 3 _ _ _ hb2
          have v4 : w7.cell? ⟨a2, 4, none⟩ = some (.int .i64 q3) := cell_of_row w7 a2 4 _ _ _ hb2
          have v5 : w7.cell? ⟨a2, 5, none⟩ = some (.int .i64 q4) := cell_of_row w7 a2 5 _ _ _ hb2
          clear hb1 hb2 ha2 hB7 y1'
          by_cases h1 : n = m
          rotate_left
          · have d1 : (n != m) = true := by simp [h1]
            have hNO : Hid (¬ p = q) := Lib.hid (HNE.out (fun e => h1 (by rw [HX.out, HYK.out] at e; injection e)))
            clear h1
            go_wp2_with fail
            go_ret
            exact ⟨false, rfl, ⟨(fun h => by cases h), fun h => absurd h hNO.out⟩, HBB.out⟩
          have d1 : (n != m) = false := by simp [h1]
          have HE1 := Lib.hid h1
          clear h1
          by_cases h2 : es = fs
          rotate_left
          · have d2 : (es != fs) = true := by simp [h2]
            have hNO : Hid (¬ p = q) := Lib.hid (HNE.out (fun e => h2 (by rw [HX.out, HYK.out] at e; injection e)))
            clear h2
            go_wp2_with fail
            go_ret
            exact ⟨false, rfl, ⟨(fun h => by cases h), fun h => absurd h hNO.out⟩, HBB.out⟩
          have d2 : (es != fs) = false := by simp [h2]
          have HE2 := Lib.hid h2
          have hne := neqOc
          clear h2
          cases h3 : ocNe ⟨o1, o2, o3, o4⟩ ⟨q1, q2, q3, q4⟩
          rotate_left
          · have hNO : Hid (¬ p = q) := Lib.hid (HNE.out (fun e => ocNe_iff.1 h3 (by rw [HX.out, HYK.out] at e; injection e)))
            go_wp2_with fail
            go_ret
            exact ⟨false, rfl, ⟨(fun h => by cases h), fun h => absurd h hNO.out⟩, HBB.out⟩
          have HEQ : Hid (p.rs[k] = q.rs[k]) := Lib.hid (by
            rw [HX.out, HYK.out, HE1.out, HE2.out]
            congr 1
            exact Decidable.byContradiction (fun e => by rw [ocNe_iff.2 e] at h3; cases h3))
          go_wp2_with fail
          go_roundw
          case rel => exact ⟨k + 1, hlt, by go_num, HB27.out, fun j h h' hj => by
            by_cases hjk : j = k
            · subst hjk; exact HEQ.out
            · exact HALL2.out j h h' (by omega)⟩
          case measure => simp [Go.RowKit.intOf]; omega
        · have hkd : k = p.rs.length := by omega
          subst hkd
          have HYES : Hid (p = q) := Lib.hid (Pt.eq_iff.2 ⟨H1.out, HSS.out, List.ext_getElem H3.out (fun j h h' => HALL2.out j h h' h)⟩)
          go_wp2_with fail
          go_ret
          exact ⟨true, rfl, ⟨fun _ => HYES.out, fun _ => rfl⟩, HBB.out⟩
end Go.Proofs.YtlfhokcjbgpjhaaGreatDoor

namespace Go.Proofs.YtlfhokcjbgpjhaaGreatDoor
open Go.RowKit Go.Bl
attribute [local go_sem ↓] Go.wp_at_zero Go.wp_at_succ

theorem decode_le4' (s : ByteArray) (pos : Nat) : (Utf8.decode s pos).2 ≤ 4 := by
  rw [Lib.decode_at]
  unfold Lib.decodeN
  repeat' split
  all_goals simp
theorem nameFrom_size' (s : ByteArray) : ∀ (f pos n : Nat), s.size ≤ pos + f → n ≤ 32 → nameFrom s f pos n = true → s.size ≤ pos + 4 * (32 - n)
  | 0, pos, n, hf, _, _ => by omega
  | f + 1, pos, n, hf, hn, h => by
    unfold nameFrom at h
    by_cases hp : pos < s.size
    · rw [if_pos hp] at h
      by_cases h32 : 32 < n + 1
      · rw [if_pos h32] at h; cases h
      · rw [if_neg h32] at h
        split at h
        · cases h
        · split at h
          · cases h
          · have h1 := Lib.decode_width_pos s pos hp
            have h2 := decode_le4' s pos
            have := nameFrom_size' s f _ (n + 1) (by omega) (by omega) h
            omega
    · omega
theorem name_size' {s : ByteArray} (h : nameB s = true) : s.size ≤ 128 := by
  have := nameFrom_size' s s.size 0 0 (by omega) (by omega) h
  omega

theorem PtOk.sizes {p : Pt} (h : PtOk p) : ∀ x ∈ p.ss, x.name.size ≤ 1000000000000000 ∧ ∀ e ∈ x.evs, EvOk e := by
  intro x hx
  obtain ⟨i, hi, rfl⟩ := List.getElem_of_mem hx
  have h1 := spOk_at (h.ss i hi)
  refine ⟨by have := name_size' h1.1; omega, fun e he => ?_⟩
  obtain ⟨j, hj, rfl⟩ := List.getElem_of_mem he
  have h2 := (h1.2.1 j (by have := h1.2.2.2; omega) hj).1
  simp only [rightE, Bool.and_eq_true, decide_eq_true_eq] at h2
  have := name_size' h2.2
  exact ⟨by omega, by omega⟩
theorem flat_len {α β : Type} (f : α → List β) (c : Nat) : ∀ l : List α, (∀ x ∈ l, (f x).length ≤ c) → (l.flatMap f).length ≤ l.length * c
  | [], _ => by simp
  | x :: l, h => by
    rw [List.flatMap_cons, List.length_append, List.length_cons, Nat.add_mul]
    have h1 := h x (by simp)
    have h2 := flat_len f c l (fun y hy => h y (List.mem_cons_of_mem _ hy))
    omega
theorem PtLt.ones {p : Pt} (h : PtLt p) : (p.ss.flatMap onesOf).length ≤ 1000000 := by
  have h1 := flat_len onesOf 40 p.ss (fun x hx => by
    have := (h.ea x hx).2.1
    unfold onesOf
    rw [List.length_map, List.length_zip]
    omega)
  have := h.ss
  omega
theorem PtLt.small {p : Pt} (h : PtLt p) : (∀ x ∈ p.ss, x.name.size ≤ 1000000000000000 ∧ ∀ e ∈ x.evs, EvOk e) ∧ ∀ x ∈ p.ss, x.name.size ≤ 1000000000 ∧ ∀ e ∈ x.evs, EvSm e := by
  refine ⟨fun x hx => ?_, fun x hx => ?_⟩
  · have := h.ea x hx
    exact ⟨by have := this.1; omega, fun e he => by have := this.2.2.2 e he; exact ⟨by omega, by omega⟩⟩
  · have := h.ea x hx
    exact ⟨by have := this.1; omega, fun e he => by have := this.2.2.2 e he; exact ⟨by omega, by omega⟩⟩
set_option maxRecDepth 10000 in
set_option maxHeartbeats 4000000 in
theorem parts_law (w : World) (hT : Tabs w) (p : Pt) (sv rv : Value) (hp : PtAt w (fun b => b < w.heap.size) sv rv p) (hpz : ∀ x ∈ p.ss, x.name.size ≤ 140737488351232 ∧ ∀ e ∈ x.evs, e.kind.size ≤ 140737488351232 ∧ e.data.size ≤ 140737488351232)
    (v : Value) (l : List Ent) (h : EntsOk w (fun b => b < w.heap.size) v l) :
    Calls Tryz.prog 5 #[.agg #[.int .i64 p.ap, sv, rv], v] w fun x w' => x = .returned (.bool true) ∧ Below w.heap.size w w' := by
  obtain ⟨A, c, rfl, hA1, hA2⟩ := hp.ss.shape
  obtain ⟨B, d, rfl, hB1, hB2⟩ := hp.rs.shape
  obtain ⟨E, ec, rfl, hE1, hE2⟩ := h.1.shape
  unfold maxLen at hA2 hB2 hE2
  have hB0 : Below w.heap.size w (w.alloc (.cells #[.int .i64 p.ap, .slice A p.ss.length c, .slice B p.rs.length d] 52)) := (Below.refl _ w).alloc (Nat.le_refl _) _
  have hb1 := heap_alloc_new w (.cells #[.int .i64 p.ap, .slice A p.ss.length c, .slice B p.rs.length d] 52)
  have HTb := Lib.hid hT
  have HA := Lib.hid h
  have HPA := Lib.hid hp
  have HPZ := Lib.hid hpz
  clear hT h hp hpz
  go_enter Tryz.func5, Tryz.ntmps5
  go_upto_region 1 with (fail)
  generalize w.alloc (.cells #[.int .i64 p.ap, .slice A p.ss.length c, .slice B p.rs.length d] 52) = w1 at hB0 hb1 ⊢
  obtain ⟨g, hg⟩ : ∃ g, w.heap.size = g := ⟨_, rfl⟩
  have HGE := Lib.hid hg
  have HB0 := Lib.hid hB0
  have Hb1 := Lib.hid hb1
  rw [hg] at hb1 Hb1 ⊢
  clear hg hB0 hb1
  go_wp2_with fail
  refine (shown_any w1 (HTb.out.fresh HB0.out)).mono ?_
  rintro e wa ⟨rfl, hBa⟩
  have hb1 := (Keeps.of_fresh hBa (fun _ => False)).grownTo Hb1.out id
  have HBa := Lib.hid (HB0.out.trans (hBa.mono HB0.out.size))
  clear hBa
  go_wp2_with fail
  refine (fits_all wa _ _ l (HA.out.fresh HBa.out)).mono ?_
  rintro x wb ⟨rfl, hBb⟩
  have hb1 := (Keeps.of_fresh hBb (fun _ => False)).grownTo hb1 id
  have HBb := Lib.hid (HBa.out.trans (hBb.mono HBa.out.size))
  clear hBb
  have x0 : wb.cell? ⟨g, 0, none⟩ = some (.int .i64 p.ap) := cell_of_row wb g 0 _ _ _ hb1
  have x1 : wb.cell? ⟨g, 1, none⟩ = some (.slice A p.ss.length c) := cell_of_row wb g 1 _ _ _ hb1
  have x2 : wb.cell? ⟨g, 2, none⟩ = some (.slice B p.rs.length d) := cell_of_row wb g 2 _ _ _ hb1
  go_wp2_with fail
  refine (light_any wb _ p _ _ (HPA.out.fresh HBb.out) HPZ.out).mono ?_
  rintro x wc ⟨BL, rfl, hBL, hBc⟩
  have hb1 := (Keeps.of_fresh hBc (fun _ => False)).grownTo hb1 id
  have HBc := Lib.hid (HBb.out.trans (hBc.mono HBb.out.size))
  have x0 : wc.cell? ⟨g, 0, none⟩ = some (.int .i64 p.ap) := cell_of_row wc g 0 _ _ _ hb1
  have x1 : wc.cell? ⟨g, 1, none⟩ = some (.slice A p.ss.length c) := cell_of_row wc g 1 _ _ _ hb1
  have x2 : wc.cell? ⟨g, 2, none⟩ = some (.slice B p.rs.length d) := cell_of_row wc g 2 _ _ _ hb1
  have HBL := Lib.hid hBL
  have Hb1 := Lib.hid hb1
  clear hBc hBL hb1
  cases hfb : fitsB l
  · go_wp2_with fail
    go_ret
    exact ⟨rfl, HBc.out⟩
  have HFB := Lib.hid hfb
  clear hfb
  cases BL
  · go_wp2_with fail
    go_ret
    exact ⟨rfl, HBc.out⟩
  have HPL : Hid (PtLt p) := Lib.hid (HBL.out rfl)
  have hl40 := (fitsB_at HFB.out).1
  clear HBL
  have HOF := Lib.hid (of_any wc (HTb.out.fresh HBc.out) (fun b => b < w.heap.size) (fun k hk => Nat.lt_of_lt_of_le hk HBc.out.size) p _ _ (HPA.out.fresh HBc.out) HPL.out.small.1 HPL.out.ones (by have := HPL.out.rs; omega))
  go_wp2_with fail
  refine HOF.out.mono ?_
  rintro e wd ⟨hBd, hok, hno⟩
  have HBd := Lib.hid (HBc.out.trans (hBd.mono HBc.out.size))
  have hb1 := (Keeps.of_fresh hBd (fun _ => False)).grownTo Hb1.out id
  have x0 : wd.cell? ⟨g, 0, none⟩ = some (.int .i64 p.ap) := cell_of_row wd g 0 _ _ _ hb1
  have x1 : wd.cell? ⟨g, 1, none⟩ = some (.slice A p.ss.length c) := cell_of_row wd g 1 _ _ _ hb1
  have x2 : wd.cell? ⟨g, 2, none⟩ = some (.slice B p.rs.length d) := cell_of_row wd g 2 _ _ _ hb1
  have Hb1 := Lib.hid hb1
  have HAS := Lib.hid (as_any wd (fun b => b < w.heap.size) (fun k hk => Nat.lt_of_lt_of_le hk HBd.out.size) p _ _ (HPA.out.fresh HBd.out) (by have := HPL.out.ss; omega) (by have := HPL.out.rs; omega))
  clear hBd hb1
  by_cases hpo : PtOk p
  · obtain ⟨q, F, W, rfl, hSt, hF⟩ := hok hpo
    have HPO := Lib.hid hpo
    have HSt := Lib.hid hSt
    have HF := Lib.hid hF
    clear hok hno hpo hSt hF
    go_wp2_with fail
    refine HAS.out.mono ?_
    rintro e we ⟨sv', rv', rfl, hP', hBe⟩
    obtain ⟨A', c', rfl, _, _⟩ := hP'.ss.shape
    obtain ⟨B', d', rfl, _, _⟩ := hP'.rs.shape
    have HPE := Lib.hid hP'
    clear hP'
    go_wp2_with fail
    refine (mright_any we _ p _ _ HPE.out HPL.out.small.2).mono ?_
    rintro e wf ⟨BR, rfl, hBR, hBf⟩
    have HBf := Lib.hid ((HBd.out.trans (hBe.mono HBd.out.size)).trans (hBf.mono (Nat.le_trans HBd.out.size hBe.size)))
    have hbdf : Below wd.heap.size wd wf := hBe.trans (hBf.mono hBe.size)
    have x0 := (hbdf.cell (p := ⟨g, 0, none⟩) (lt_of_cellP x0)).trans x0
    have x1 := (hbdf.cell (p := ⟨g, 1, none⟩) (lt_of_cellP x1)).trans x1
    have x2 := (hbdf.cell (p := ⟨g, 2, none⟩) (lt_of_cellP x2)).trans x2
    clear hbdf
    obtain rfl : BR = true := hBR.2 HPO.out
    clear hBR
    have HStf := Lib.hid ((HSt.out.fresh hBe).fresh hBf)
    clear hBe hBf
    go_upto_region 10 with (fail)
    go_cut [68] (fun s68 wx => s68 = .bool false ∧ Below wf.heap.size wf wx)
    case first =>
      have hLl : (stOf p).L.length ≤ 100000 := by
        have h1 := flat_len onesOf 40 p.ss (fun x hx => by
          have := (HPL.out.ea x hx).2.1
          unfold onesOf
          rw [List.length_map, List.length_zip]
          omega)
        have h2 := HPL.out.ss
        show (p.ss.flatMap onesOf).length ≤ _
        omega
      have hTl : (stOf p).T.length ≤ 100000 := by
        have := HPL.out.rs
        show p.rs.length ≤ _
        omega
      have hsz : ∀ o ∈ (stOf p).L, o.stream.size ≤ 1000000 := fun o ho => by
        obtain ⟨x, hx, ho⟩ := List.mem_flatMap.1 (show o ∈ p.ss.flatMap onesOf from ho)
        obtain ⟨z, _, rfl⟩ := List.mem_map.1 ho
        have := (HPL.out.ea x hx).1
        show x.name.size ≤ _
        omega
      have HPP := Lib.hid (parts_any wf.drew q (stOf p) F W (HStf.out.fresh ⟨rfl, rfl, rfl, Nat.le_refl _, fun _ _ => rfl⟩) hLl hTl hsz HStf.out.okL)
      have HAF := Lib.hid (fun (wz : World) (hz : Below wf.heap.size wf wz) => as_any wz (fun b => b < w.heap.size) (fun k hk => Nat.lt_of_lt_of_le hk (Nat.le_trans HBf.out.size hz.size)) p _ _ (HPA.out.fresh (HBf.out.trans (hz.mono HBf.out.size))) (by have := HPL.out.ss; omega) (by have := HPL.out.rs; omega))
      clear hLl hTl hsz
      go_wp2_with fail
      go_region_held3 (fun x => x.cell? ⟨g, 0, none⟩ = some (.int .i64 p.ap) ∧ x.cell? ⟨g, 1, none⟩ = some (.slice A p.ss.length c) ∧ x.cell? ⟨g, 2, none⟩ = some (.slice B p.rs.length d))
        (first | exact ⟨x0, x1, x2⟩ | go_keep)
        (first
          | (go_at_call 25
             refine HPP.out.mono ?_
             rintro e wv ⟨sv1, rv1, rfl, hP1, hBv⟩
             rw [ptOf_stOf HPO.out] at hP1
             obtain ⟨A1, c1, rfl, _, _⟩ := hP1.ss.shape
             obtain ⟨B1, d1, rfl, _, _⟩ := hP1.rs.shape
             rw [show (ptOf (stOf p)).ap = p.ap from rfl]
             have hBv : Below wf.heap.size wf wv := ⟨hBv.os, hBv.tape, hBv.output, hBv.size, hBv.block⟩
             have x0 := (hBv.cell (p := ⟨g, 0, none⟩) (lt_of_cellP x0)).trans x0
             have x1 := (hBv.cell (p := ⟨g, 1, none⟩) (lt_of_cellP x1)).trans x1
             have x2 := (hBv.cell (p := ⟨g, 2, none⟩) (lt_of_cellP x2)).trans x2
             have HP1 := Lib.hid hP1
             have HBv := Lib.hid hBv
             clear hP1 hBv)
          | (go_at_call 23
             refine (HAF.out _ HBv.out).mono ?_
             rintro e wu ⟨sv2, rv2, rfl, hP2, hBu⟩
             obtain ⟨A2, c2, rfl, _, _⟩ := hP2.ss.shape
             obtain ⟨B2, d2, rfl, _, _⟩ := hP2.rs.shape
             have HP2 := Lib.hid hP2
             have HP1 := Lib.hid (HP1.out.fresh hBu)
             have x0 := (hBu.cell (p := ⟨g, 0, none⟩) (lt_of_cellP x0)).trans x0
             have x1 := (hBu.cell (p := ⟨g, 1, none⟩) (lt_of_cellP x1)).trans x1
             have x2 := (hBu.cell (p := ⟨g, 2, none⟩) (lt_of_cellP x2)).trans x2
             have HBu := Lib.hid (HBv.out.trans (hBu.mono HBv.out.size))
             clear hP2 hBu)
          | (go_at_call 24
             refine (sameP_any _ _ _ p p _ _ _ _ HP1.out HP2.out).mono ?_
             rintro e wt ⟨BS, rfl, hBS, hBt⟩
             obtain rfl : BS = true := hBS.2 rfl
             have x0 := (hBt.cell (p := ⟨g, 0, none⟩) (lt_of_cellP x0)).trans x0
             have x1 := (hBt.cell (p := ⟨g, 1, none⟩) (lt_of_cellP x1)).trans x1
             have x2 := (hBt.cell (p := ⟨g, 2, none⟩) (lt_of_cellP x2)).trans x2
             have HBt := Lib.hid (HBu.out.trans (hBt.mono HBu.out.size))
             clear hBS hBt))
      all_goals go_wp2_with fail
      all_goals go_meet
      all_goals exact ⟨rfl, HBt.out⟩
    case rest =>
      obtain ⟨rfl, hBx⟩ := hcut
      have HBx := Lib.hid (HBf.out.trans (hBx.mono HBf.out.size))
      obtain ⟨w0, rfl⟩ : ∃ z, z = wc := ⟨_, rfl⟩
      clear hBx x0 x1 x2
      as_aux_lemma =>
      go_wp2_with fail
      refine (snew_any w0).mono ?_
      rintro e w1 ⟨pa, W0, rfl, _, hW0, hS0, hB1⟩
      have HB1 := Lib.hid (HBx.out.trans (hB1.mono HBx.out.size))
      have HS0 := Lib.hid hS0
      have hz1 := hB1.size
      clear hB1 hS0 hW0
      go_wp2_with fail
      refine (mnew_any w1).mono ?_
      rintro e w2 ⟨m, rfl, hM0, hB2⟩
      have hB0 : Both w w2 pa m (.slice none 0 0) [] St.new (fun k => w0.heap.size ≤ k ∧ k < w1.heap.size) W0 (fun k => w1.heap.size ≤ k ∧ k < w2.heap.size) 0 :=
        ⟨HS0.out.fresh hB2, hM0, fun j h1 h2 => by omega, fun j hj => Nat.le_trans HBx.out.size hj.1, fun j hj => Nat.le_trans HB1.out.size hj.1, Sl.nil_ _ _ _ _, fun b hb => by simp [Value.ownBlock] at hb, by simp [St.new], by simp [St.new], by simp [St.new], by simp [St.new], HB1.out.trans (hB2.mono HB1.out.size)⟩
      have HBo0 := Lib.hid hB0
      clear hB0 hM0 hB2
      go_wp2_with fail
      go_loopw [13, 14] (fun i _ wr => ∃ (k : Nat) (s : St) (F W M : Nat → Prop), k ≤ l.length ∧ i = .int .i64 k ∧ Both w wr pa m (.slice none 0 0) [] s F W M k ∧ Rch s) (fun i _ _ => l.length - (RowKit.intOf i).toNat)
      case atStart => exact ⟨0, St.new, _, W0, _, Nat.zero_le _, rfl, HBo0.out, Rch.new⟩
      case round =>
        obtain ⟨k, s, F, W, M, hk, rfl, hBo, hrc⟩ := hrel
        have HBo := Lib.hid hBo
        have HRC := Lib.hid hrc
        clear hBo hrc
        by_cases hlt : k < l.length
        · obtain ⟨b, o, rfl, _, _, hxx⟩ := (HA.out.1.fresh HBo.out.bel).cell_ hlt
          have hok := HA.out.2 l[k] (List.getElem_mem hlt)
          have hfe := (fitsB_at HFB.out).2 l[k] (List.getElem_mem hlt)
          obtain ⟨a, ha⟩ : ∃ a, l[k] = a := ⟨_, rfl⟩
          rw [ha] at hxx hok hfe
          obtain ⟨B, d, hv, _, _⟩ := hok.1.shape
          have x0 := hxx 0 _ rfl
          have x1 := hxx 1 _ rfl
          have x2 := hxx 2 _ rfl
          have x3 := hxx 3 _ rfl
          have x4 := hxx 4 _ rfl
          have x5 := hxx 5 _ rfl
          have x6 := hxx 6 _ rfl
          rw [hv] at x6
          simp only [Nat.add_zero] at x0
          have HFE := Lib.hid (entF_at hfe).1
          have hevl := (entF_at hfe).2.1
          have HV := Lib.hid hv
          have hEv : ∀ wz, Below w.heap.size w wz → ∀ pos : Int, BatchOk wz (fun b => b < w.heap.size) (a.at_ pos) ∧ BatchSm wz (fun b => b < w.heap.size) (a.at_ pos) := fun wz hz pos => by
            have h0 := hok.fresh hz
            exact ⟨h0.batch hfe, h0.small hfe⟩
          have HEV := Lib.hid hEv
          have HNW : Hid (¬ W wr.heap.size) := Lib.hid (fun e => by have := HBo.out.stl _ e; omega)
          have hB5 : Below wr.heap.size wr (wr.alloc (.cells #[.int .i64 a.pos, .int .i64 a.epoch, .string a.stream, .int .i64 a.expect, .int .i64 a.session, .int .i64 a.seq, .slice B a.evs.length d] 42)) := (Below.refl _ wr).alloc (Nat.le_refl _) _
          have hblk := heap_alloc_new wr (.cells #[.int .i64 a.pos, .int .i64 a.epoch, .string a.stream, .int .i64 a.expect, .int .i64 a.session, .int .i64 a.seq, .slice B a.evs.length d] 42)
          have hkI : ((0 : Int) ≤ (k : Int)) ∧ ((k : Int) < (l.length : Int)) := by omega
          obtain ⟨hk1, hk2⟩ := hkI
          clear hxx hok hfe ha hv hEv
          go_upto_region 20 with (fail)
          generalize wr.alloc (.cells #[.int .i64 a.pos, .int .i64 a.epoch, .string a.stream, .int .i64 a.expect, .int .i64 a.session, .int .i64 a.seq, .slice B a.evs.length d] 42) = w5 at hB5 hblk ⊢
          have HBo5 := Lib.hid (HBo.out.fresh hB5)
          have HB5 := Lib.hid hB5
          have HE := Lib.hid hblk
          have y0 : w5.cell? ⟨wr.heap.size, 0, none⟩ = some (.int .i64 a.pos) := cell_of_row w5 _ 0 _ _ _ hblk
          have g0 : w5.frozen? ⟨wr.heap.size, 0, none⟩ = false := frozen_block hblk 0
          have hap := HBo.out.ap
          have hw1 : IntKind.i64.wrap (s.ap + 1) = s.ap + 1 := IntWalk.i64_in _ (by omega)
          clear x0 x1 x2 x3 x4 x5 x6 hB5 hblk
          go_wp2_with fail
          refine (applied_any w5 pa s F W HBo5.out.st).mono ?_
          rintro e wz ⟨rfl, rfl⟩
          go_upto_region 21 with (fail)
          have hkS : Keeps (fun q => q = wr.heap.size) wr _ := ((Keeps.of_fresh HB5.out (fun q => q = wr.heap.size))).setCell (p := ⟨wr.heap.size, 0, none⟩) (fun _ => rfl) (.int .i64 (s.ap + 1))
          have hk2 := setCell_block' (o := 0) (v := .int .i64 (s.ap + 1)) HE.out
          generalize w5.setCell ⟨wr.heap.size, 0, none⟩ (.int .i64 (s.ap + 1)) = w6 at hkS hk2 ⊢
          have HBo6 := Lib.hid (HBo.out.keep hkS (fun j e => by omega))
          have HE6 := Lib.hid hk2
          clear y0 g0 hkS hw1
          have y0 : w6.cell? ⟨wr.heap.size, 0, none⟩ = some (.int .i64 (s.ap+1)) := cell_of_row w6 _ 0 _ _ _ hk2
          have y1 : w6.cell? ⟨wr.heap.size, 1, none⟩ = some (.int .i64 a.epoch) := cell_of_row w6 _ 1 _ _ _ hk2
          have y2 : w6.cell? ⟨wr.heap.size, 2, none⟩ = some (.string a.stream) := cell_of_row w6 _ 2 _ _ _ hk2
          have y3 : w6.cell? ⟨wr.heap.size, 3, none⟩ = some (.int .i64 a.expect) := cell_of_row w6 _ 3 _ _ _ hk2
          have y4 : w6.cell? ⟨wr.heap.size, 4, none⟩ = some (.int .i64 a.session) := cell_of_row w6 _ 4 _ _ _ hk2
          have y5 : w6.cell? ⟨wr.heap.size, 5, none⟩ = some (.int .i64 a.seq) := cell_of_row w6 _ 5 _ _ _ hk2
          have y6 : w6.cell? ⟨wr.heap.size, 6, none⟩ = some (.slice B a.evs.length d) := cell_of_row w6 _ 6 _ _ _ hk2
          have HBt := Lib.hid (HEV.out w6 HBo6.out.bel (s.ap + 1))
          have hcall := apply_any w6 (HTb.out.fresh HBo6.out.bel) pa s F W HBo6.out.st _ (a.at_ (s.ap + 1)) HBt.out.1 (fun q hq e => by have := HBo6.out.fl q (HBo6.out.st.wf q e); omega) (by have := HBo6.out.ap; omega) (by have := HBo6.out.lL; show _ + a.evs.length ≤ _; omega) (by have := HBo6.out.lT; omega)
          rw [show (a.at_ (s.ap + 1)).evv = .slice B a.evs.length d from HV.out] at hcall
          rcases hrr : applyS s (a.at_ (s.ap + 1)) with ⟨s', ⟨r1, r2, r3, r4⟩, r5⟩
          rw [hrr] at hcall
          have HC := Lib.hid hcall
          have HRR := Lib.hid hrr
          clear hcall hrr hk2
          go_wp2_with fail
          refine HC.out.mono ?_
          rintro e w7 ⟨rfl, hAp⟩
          have HAp := Lib.hid hAp
          have HMt := Lib.hid (HBo6.out.after hAp)
          have hE7 := HBo6.out.keepE hAp HE6.out HNW.out
          have HBZ7 := Lib.hid (HBo6.out.belApp hAp)
          clear hAp y0 y1 y2 y3 y4 y5 y6
          have y0 : w7.cell? ⟨wr.heap.size, 0, none⟩ = some (.int .i64 (s.ap+1)) := cell_of_row w7 _ 0 _ _ _ hE7
          have y1 : w7.cell? ⟨wr.heap.size, 1, none⟩ = some (.int .i64 a.epoch) := cell_of_row w7 _ 1 _ _ _ hE7
          have y2 : w7.cell? ⟨wr.heap.size, 2, none⟩ = some (.string a.stream) := cell_of_row w7 _ 2 _ _ _ hE7
          have y3 : w7.cell? ⟨wr.heap.size, 3, none⟩ = some (.int .i64 a.expect) := cell_of_row w7 _ 3 _ _ _ hE7
          have y4 : w7.cell? ⟨wr.heap.size, 4, none⟩ = some (.int .i64 a.session) := cell_of_row w7 _ 4 _ _ _ hE7
          have y5 : w7.cell? ⟨wr.heap.size, 5, none⟩ = some (.int .i64 a.seq) := cell_of_row w7 _ 5 _ _ _ hE7
          have y6 : w7.cell? ⟨wr.heap.size, 6, none⟩ = some (.slice B a.evs.length d) := cell_of_row w7 _ 6 _ _ _ hE7
          have hcall := mapply_any w7 m s M HMt.out _ (a.at_ (s.ap + 1)) (HEV.out w7 HBZ7.out (s.ap + 1)).2 (fun q hq e => by have := HBo6.out.ml q e; omega) (by have := HBo6.out.ap; omega) (by have := HBo6.out.lL; show _ + a.evs.length ≤ _; omega) (by have := HBo6.out.lT; omega)
          rw [show (a.at_ (s.ap + 1)).evv = .slice B a.evs.length d from HV.out, HRR.out] at hcall
          have HC := Lib.hid hcall
          clear hcall hE7
          go_wp2_with fail
          refine HC.out.mono ?_
          rintro e w9 ⟨rfl, hMp⟩
          obtain ⟨F', W', M', hBo9⟩ := HBo6.out.step HAp.out (Below.refl _ _) hMp HRR.out HFE.out
          have HBo9 := Lib.hid hBo9
          have HRC9 : Hid (Rch s') := Lib.hid (by
            have h1 := HRC.out.step (a := a.at_ (s.ap + 1)) (by rw [HRR.out]; have := hBo9.ap; show s'.ap ≤ _; omega)
            rw [HRR.out] at h1
            exact h1)
          clear hMp hBo9 y0 y1 y2 y3 y4 y5 y6
          go_wp2_with fail
          go_roundw
          case rel => exact ⟨k + 1, s', F', W', M', hlt, by go_num, HBo9.out, HRC9.out⟩
          case measure => simp [RowKit.intOf]; omega
        · have hkd : k = l.length := by omega
          subst hkd
          have hlL := HBo.out.lL
          have hlT := HBo.out.lT
          have HPT := Lib.hid (parts_any wr pa s F W HBo.out.st (by omega) (by omega) (fun o ho => Nat.le_trans (HBo.out.str o ho) (by decide)) HBo.out.st.okL)
          go_wp2_with fail
          refine HPT.out.mono ?_
          rintro e w3 ⟨sv3, rv3, rfl, hP3, hB3⟩
          obtain ⟨A3, c3, rfl, _, _⟩ := hP3.ss.shape
          obtain ⟨B3, d3, rfl, _, _⟩ := hP3.rs.shape
          have hpk := HRC.out.parts
          have HO3 := Lib.hid (of_any w3 (HTb.out.fresh (HBo.out.fresh hB3).bel) (fun b => b < w3.heap.size) (fun k hk => hk) (ptOf s) _ _ (hP3.mono (fun k hk _ => hk)) hpk.sizes (by
            have h1 := ofS_len HRC.out.eqv.ofS
            have h2 : (stOf (ptOf s)).L.length ≤ 1000000 := by omega
            exact h2) (by
            have h1 := reqs_len s.T
            have h2 : (reqsOf s.T).length ≤ 1000000 := by omega
            exact h2))
          have HBo3 := Lib.hid (HBo.out.fresh hB3)
          have HPK := Lib.hid hpk
          clear hP3 hB3 hpk
          go_wp2_with fail
          refine HO3.out.mono ?_
          rintro e w4 ⟨hB4, hok4, _⟩
          obtain ⟨q4, F4, W4, rfl, hS4, hF4⟩ := hok4 HPK.out
          have HS4 := Lib.hid (eqv_at hS4 HRC.out.eqv HBo3.out.st.okL)
          have HBo4 := Lib.hid (HBo3.out.fresh hB4)
          have HPT4 := Lib.hid (parts_any w4 pa s F W HBo4.out.st (by omega) (by omega) (fun o ho => Nat.le_trans (HBo4.out.str o ho) (by decide)) HBo4.out.st.okL)
          clear hB4 hok4 hS4 hF4
          go_wp2_with fail
          refine HPT4.out.mono ?_
          rintro e w5 ⟨sv5, rv5, rfl, hP5, hB5⟩
          obtain ⟨A5, c5, rfl, _, _⟩ := hP5.ss.shape
          obtain ⟨B5, d5, rfl, _, _⟩ := hP5.rs.shape
          have HS5 := Lib.hid (HS4.out.fresh hB5)
          have HBo5 := Lib.hid (HBo4.out.fresh hB5)
          have HP5 := Lib.hid hP5
          clear hP5 hB5
          go_wp2_with fail
          refine (mparts_any w5 m s M HBo5.out.mt (by omega) (by omega) (fun o ho => Nat.le_trans (HBo5.out.str o ho) (by decide)) HBo5.out.st.okL).mono ?_
          rintro e w6 ⟨sv6, rv6, rfl, hP6, hB6⟩
          obtain ⟨A6, c6, rfl, _, _⟩ := hP6.ss.shape
          obtain ⟨B6, d6, rfl, _, _⟩ := hP6.rs.shape
          have HS6 := Lib.hid (HS5.out.fresh hB6)
          have HBo6 := Lib.hid (HBo5.out.fresh hB6)
          have HP56 := Lib.hid (HP5.out.fresh hB6)
          have HP6 := Lib.hid hP6
          clear hP6 hB6
          go_wp2_with fail
          refine (sameP_any w6 _ _ (ptOf s) (ptOf s) _ _ _ _ HP56.out HP6.out).mono ?_
          rintro e w7 ⟨BS, rfl, hBS, hB7⟩
          obtain rfl : BS = true := hBS.2 rfl
          have HS7 := Lib.hid (HS6.out.fresh hB7)
          have HBo7 := Lib.hid (HBo6.out.fresh hB7)
          clear hBS hB7
          go_wp2_with fail
          refine (alike_any w7 q4 m s F4 W4 M HS7.out HBo7.out.mt (by omega) (by omega) (fun o ho => Nat.le_trans (HBo7.out.str o ho) (by decide)) HBo7.out.st.okL).mono ?_
          rintro e w8 ⟨rfl, hB8⟩
          have HBf8 := Lib.hid (HBo7.out.fresh hB8).bel
          clear hB8
          go_wp2_with fail
          go_ret
          exact ⟨rfl, HBf8.out⟩
  · obtain rfl := hno hpo
    have HPO := Lib.hid hpo
    clear hok hno hpo
    go_wp2_with fail
    refine HAS.out.mono ?_
    rintro e we ⟨sv', rv', rfl, hP', hBe⟩
    obtain ⟨A', c', rfl, _, _⟩ := hP'.ss.shape
    obtain ⟨B', d', rfl, _, _⟩ := hP'.rs.shape
    have HPE := Lib.hid hP'
    clear hP'
    go_wp2_with fail
    refine (mright_any we _ p _ _ HPE.out HPL.out.small.2).mono ?_
    rintro e wf ⟨BR, rfl, hBR, hBf⟩
    have HBf := Lib.hid ((HBd.out.trans (hBe.mono HBd.out.size)).trans (hBf.mono (Nat.le_trans HBd.out.size hBe.size)))
    have hbdf : Below wd.heap.size wd wf := hBe.trans (hBf.mono hBe.size)
    have x0 := (hbdf.cell (p := ⟨g, 0, none⟩) (lt_of_cellP x0)).trans x0
    have x1 := (hbdf.cell (p := ⟨g, 1, none⟩) (lt_of_cellP x1)).trans x1
    have x2 := (hbdf.cell (p := ⟨g, 2, none⟩) (lt_of_cellP x2)).trans x2
    clear hbdf
    have HBRf : BR = false := by
      cases BR
      · rfl
      · exact absurd (hBR.1 rfl) HPO.out
    subst HBRf
    clear hBR hBe hBf x0 x1 x2
    go_wp2_with fail
    go_quiet (fail)
    obtain ⟨w0, hw0⟩ : ∃ z, z = wf.drewN nq := ⟨_, rfl⟩
    rw [← hw0]
    have HBx : Hid (Below w.heap.size w w0) := Lib.hid (by rw [hw0]; exact HBf.out.trans ⟨rfl, rfl, rfl, Nat.le_refl _, fun _ _ => rfl⟩)
    clear hw0
    as_aux_lemma =>
    go_wp2_with fail
    refine (snew_any w0).mono ?_
    rintro e w1 ⟨pa, W0, rfl, _, hW0, hS0, hB1⟩
    have HB1 := Lib.hid (HBx.out.trans (hB1.mono HBx.out.size))
    have HS0 := Lib.hid hS0
    have hz1 := hB1.size
    clear hB1 hS0 hW0
    go_wp2_with fail
    refine (mnew_any w1).mono ?_
    rintro e w2 ⟨m, rfl, hM0, hB2⟩
    have hB0 : Both w w2 pa m (.slice none 0 0) [] St.new (fun k => w0.heap.size ≤ k ∧ k < w1.heap.size) W0 (fun k => w1.heap.size ≤ k ∧ k < w2.heap.size) 0 :=
      ⟨HS0.out.fresh hB2, hM0, fun j h1 h2 => by omega, fun j hj => Nat.le_trans HBx.out.size hj.1, fun j hj => Nat.le_trans HB1.out.size hj.1, Sl.nil_ _ _ _ _, fun b hb => by simp [Value.ownBlock] at hb, by simp [St.new], by simp [St.new], by simp [St.new], by simp [St.new], HB1.out.trans (hB2.mono HB1.out.size)⟩
    have HBo0 := Lib.hid hB0
    clear hB0 hM0 hB2
    go_wp2_with fail
    go_loopw [13, 14] (fun i _ wr => ∃ (k : Nat) (s : St) (F W M : Nat → Prop), k ≤ l.length ∧ i = .int .i64 k ∧ Both w wr pa m (.slice none 0 0) [] s F W M k ∧ Rch s) (fun i _ _ => l.length - (RowKit.intOf i).toNat)
    case atStart => exact ⟨0, St.new, _, W0, _, Nat.zero_le _, rfl, HBo0.out, Rch.new⟩
    case round =>
      obtain ⟨k, s, F, W, M, hk, rfl, hBo, hrc⟩ := hrel
      have HBo := Lib.hid hBo
      have HRC := Lib.hid hrc
      clear hBo hrc
      by_cases hlt : k < l.length
      · obtain ⟨b, o, rfl, _, _, hxx⟩ := (HA.out.1.fresh HBo.out.bel).cell_ hlt
        have hok := HA.out.2 l[k] (List.getElem_mem hlt)
        have hfe := (fitsB_at HFB.out).2 l[k] (List.getElem_mem hlt)
        obtain ⟨a, ha⟩ : ∃ a, l[k] = a := ⟨_, rfl⟩
        rw [ha] at hxx hok hfe
        obtain ⟨B, d, hv, _, _⟩ := hok.1.shape
        have x0 := hxx 0 _ rfl
        have x1 := hxx 1 _ rfl
        have x2 := hxx 2 _ rfl
        have x3 := hxx 3 _ rfl
        have x4 := hxx 4 _ rfl
        have x5 := hxx 5 _ rfl
        have x6 := hxx 6 _ rfl
        rw [hv] at x6
        simp only [Nat.add_zero] at x0
        have HFE := Lib.hid (entF_at hfe).1
        have hevl := (entF_at hfe).2.1
        have HV := Lib.hid hv
        have hEv : ∀ wz, Below w.heap.size w wz → ∀ pos : Int, BatchOk wz (fun b => b < w.heap.size) (a.at_ pos) ∧ BatchSm wz (fun b => b < w.heap.size) (a.at_ pos) := fun wz hz pos => by
          have h0 := hok.fresh hz
          exact ⟨h0.batch hfe, h0.small hfe⟩
        have HEV := Lib.hid hEv
        have HNW : Hid (¬ W wr.heap.size) := Lib.hid (fun e => by have := HBo.out.stl _ e; omega)
        have hB5 : Below wr.heap.size wr (wr.alloc (.cells #[.int .i64 a.pos, .int .i64 a.epoch, .string a.stream, .int .i64 a.expect, .int .i64 a.session, .int .i64 a.seq, .slice B a.evs.length d] 42)) := (Below.refl _ wr).alloc (Nat.le_refl _) _
        have hblk := heap_alloc_new wr (.cells #[.int .i64 a.pos, .int .i64 a.epoch, .string a.stream, .int .i64 a.expect, .int .i64 a.session, .int .i64 a.seq, .slice B a.evs.length d] 42)
        have hkI : ((0 : Int) ≤ (k : Int)) ∧ ((k : Int) < (l.length : Int)) := by omega
        obtain ⟨hk1, hk2⟩ := hkI
        clear hxx hok hfe ha hv hEv
        go_upto_region 20 with (fail)
        generalize wr.alloc (.cells #[.int .i64 a.pos, .int .i64 a.epoch, .string a.stream, .int .i64 a.expect, .int .i64 a.session, .int .i64 a.seq, .slice B a.evs.length d] 42) = w5 at hB5 hblk ⊢
        have HBo5 := Lib.hid (HBo.out.fresh hB5)
        have HB5 := Lib.hid hB5
        have HE := Lib.hid hblk
        have y0 : w5.cell? ⟨wr.heap.size, 0, none⟩ = some (.int .i64 a.pos) := cell_of_row w5 _ 0 _ _ _ hblk
        have g0 : w5.frozen? ⟨wr.heap.size, 0, none⟩ = false := frozen_block hblk 0
        have hap := HBo.out.ap
        have hw1 : IntKind.i64.wrap (s.ap + 1) = s.ap + 1 := IntWalk.i64_in _ (by omega)
        clear x0 x1 x2 x3 x4 x5 x6 hB5 hblk
        go_wp2_with fail
        refine (applied_any w5 pa s F W HBo5.out.st).mono ?_
        rintro e wz ⟨rfl, rfl⟩
        go_upto_region 21 with (fail)
        have hkS : Keeps (fun q => q = wr.heap.size) wr _ := ((Keeps.of_fresh HB5.out (fun q => q = wr.heap.size))).setCell (p := ⟨wr.heap.size, 0, none⟩) (fun _ => rfl) (.int .i64 (s.ap + 1))
        have hk2 := setCell_block' (o := 0) (v := .int .i64 (s.ap + 1)) HE.out
        generalize w5.setCell ⟨wr.heap.size, 0, none⟩ (.int .i64 (s.ap + 1)) = w6 at hkS hk2 ⊢
        have HBo6 := Lib.hid (HBo.out.keep hkS (fun j e => by omega))
        have HE6 := Lib.hid hk2
        clear y0 g0 hkS hw1
        have y0 : w6.cell? ⟨wr.heap.size, 0, none⟩ = some (.int .i64 (s.ap+1)) := cell_of_row w6 _ 0 _ _ _ hk2
        have y1 : w6.cell? ⟨wr.heap.size, 1, none⟩ = some (.int .i64 a.epoch) := cell_of_row w6 _ 1 _ _ _ hk2
        have y2 : w6.cell? ⟨wr.heap.size, 2, none⟩ = some (.string a.stream) := cell_of_row w6 _ 2 _ _ _ hk2
        have y3 : w6.cell? ⟨wr.heap.size, 3, none⟩ = some (.int .i64 a.expect) := cell_of_row w6 _ 3 _ _ _ hk2
        have y4 : w6.cell? ⟨wr.heap.size, 4, none⟩ = some (.int .i64 a.session) := cell_of_row w6 _ 4 _ _ _ hk2
        have y5 : w6.cell? ⟨wr.heap.size, 5, none⟩ = some (.int .i64 a.seq) := cell_of_row w6 _ 5 _ _ _ hk2
        have y6 : w6.cell? ⟨wr.heap.size, 6, none⟩ = some (.slice B a.evs.length d) := cell_of_row w6 _ 6 _ _ _ hk2
        have HBt := Lib.hid (HEV.out w6 HBo6.out.bel (s.ap + 1))
        have hcall := apply_any w6 (HTb.out.fresh HBo6.out.bel) pa s F W HBo6.out.st _ (a.at_ (s.ap + 1)) HBt.out.1 (fun q hq e => by have := HBo6.out.fl q (HBo6.out.st.wf q e); omega) (by have := HBo6.out.ap; omega) (by have := HBo6.out.lL; show _ + a.evs.length ≤ _; omega) (by have := HBo6.out.lT; omega)
        rw [show (a.at_ (s.ap + 1)).evv = .slice B a.evs.length d from HV.out] at hcall
        rcases hrr : applyS s (a.at_ (s.ap + 1)) with ⟨s', ⟨r1, r2, r3, r4⟩, r5⟩
        rw [hrr] at hcall
        have HC := Lib.hid hcall
        have HRR := Lib.hid hrr
        clear hcall hrr hk2
        go_wp2_with fail
        refine HC.out.mono ?_
        rintro e w7 ⟨rfl, hAp⟩
        have HAp := Lib.hid hAp
        have HMt := Lib.hid (HBo6.out.after hAp)
        have hE7 := HBo6.out.keepE hAp HE6.out HNW.out
        have HBZ7 := Lib.hid (HBo6.out.belApp hAp)
        clear hAp y0 y1 y2 y3 y4 y5 y6
        have y0 : w7.cell? ⟨wr.heap.size, 0, none⟩ = some (.int .i64 (s.ap+1)) := cell_of_row w7 _ 0 _ _ _ hE7
        have y1 : w7.cell? ⟨wr.heap.size, 1, none⟩ = some (.int .i64 a.epoch) := cell_of_row w7 _ 1 _ _ _ hE7
        have y2 : w7.cell? ⟨wr.heap.size, 2, none⟩ = some (.string a.stream) := cell_of_row w7 _ 2 _ _ _ hE7
        have y3 : w7.cell? ⟨wr.heap.size, 3, none⟩ = some (.int .i64 a.expect) := cell_of_row w7 _ 3 _ _ _ hE7
        have y4 : w7.cell? ⟨wr.heap.size, 4, none⟩ = some (.int .i64 a.session) := cell_of_row w7 _ 4 _ _ _ hE7
        have y5 : w7.cell? ⟨wr.heap.size, 5, none⟩ = some (.int .i64 a.seq) := cell_of_row w7 _ 5 _ _ _ hE7
        have y6 : w7.cell? ⟨wr.heap.size, 6, none⟩ = some (.slice B a.evs.length d) := cell_of_row w7 _ 6 _ _ _ hE7
        have hcall := mapply_any w7 m s M HMt.out _ (a.at_ (s.ap + 1)) (HEV.out w7 HBZ7.out (s.ap + 1)).2 (fun q hq e => by have := HBo6.out.ml q e; omega) (by have := HBo6.out.ap; omega) (by have := HBo6.out.lL; show _ + a.evs.length ≤ _; omega) (by have := HBo6.out.lT; omega)
        rw [show (a.at_ (s.ap + 1)).evv = .slice B a.evs.length d from HV.out, HRR.out] at hcall
        have HC := Lib.hid hcall
        clear hcall hE7
        go_wp2_with fail
        refine HC.out.mono ?_
        rintro e w9 ⟨rfl, hMp⟩
        obtain ⟨F', W', M', hBo9⟩ := HBo6.out.step HAp.out (Below.refl _ _) hMp HRR.out HFE.out
        have HBo9 := Lib.hid hBo9
        have HRC9 : Hid (Rch s') := Lib.hid (by
          have h1 := HRC.out.step (a := a.at_ (s.ap + 1)) (by rw [HRR.out]; have := hBo9.ap; show s'.ap ≤ _; omega)
          rw [HRR.out] at h1
          exact h1)
        clear hMp hBo9 y0 y1 y2 y3 y4 y5 y6
        go_wp2_with fail
        go_roundw
        case rel => exact ⟨k + 1, s', F', W', M', hlt, by go_num, HBo9.out, HRC9.out⟩
        case measure => simp [RowKit.intOf]; omega
      · have hkd : k = l.length := by omega
        subst hkd
        have hlL := HBo.out.lL
        have hlT := HBo.out.lT
        have HPT := Lib.hid (parts_any wr pa s F W HBo.out.st (by omega) (by omega) (fun o ho => Nat.le_trans (HBo.out.str o ho) (by decide)) HBo.out.st.okL)
        go_wp2_with fail
        refine HPT.out.mono ?_
        rintro e w3 ⟨sv3, rv3, rfl, hP3, hB3⟩
        obtain ⟨A3, c3, rfl, _, _⟩ := hP3.ss.shape
        obtain ⟨B3, d3, rfl, _, _⟩ := hP3.rs.shape
        have hpk := HRC.out.parts
        have HO3 := Lib.hid (of_any w3 (HTb.out.fresh (HBo.out.fresh hB3).bel) (fun b => b < w3.heap.size) (fun k hk => hk) (ptOf s) _ _ (hP3.mono (fun k hk _ => hk)) hpk.sizes (by
          have h1 := ofS_len HRC.out.eqv.ofS
          have h2 : (stOf (ptOf s)).L.length ≤ 1000000 := by omega
          exact h2) (by
          have h1 := reqs_len s.T
          have h2 : (reqsOf s.T).length ≤ 1000000 := by omega
          exact h2))
        have HBo3 := Lib.hid (HBo.out.fresh hB3)
        have HPK := Lib.hid hpk
        clear hP3 hB3 hpk
        go_wp2_with fail
        refine HO3.out.mono ?_
        rintro e w4 ⟨hB4, hok4, _⟩
        obtain ⟨q4, F4, W4, rfl, hS4, hF4⟩ := hok4 HPK.out
        have HS4 := Lib.hid (eqv_at hS4 HRC.out.eqv HBo3.out.st.okL)
        have HBo4 := Lib.hid (HBo3.out.fresh hB4)
        have HPT4 := Lib.hid (parts_any w4 pa s F W HBo4.out.st (by omega) (by omega) (fun o ho => Nat.le_trans (HBo4.out.str o ho) (by decide)) HBo4.out.st.okL)
        clear hB4 hok4 hS4 hF4
        go_wp2_with fail
        refine HPT4.out.mono ?_
        rintro e w5 ⟨sv5, rv5, rfl, hP5, hB5⟩
        obtain ⟨A5, c5, rfl, _, _⟩ := hP5.ss.shape
        obtain ⟨B5, d5, rfl, _, _⟩ := hP5.rs.shape
        have HS5 := Lib.hid (HS4.out.fresh hB5)
        have HBo5 := Lib.hid (HBo4.out.fresh hB5)
        have HP5 := Lib.hid hP5
        clear hP5 hB5
        go_wp2_with fail
        refine (mparts_any w5 m s M HBo5.out.mt (by omega) (by omega) (fun o ho => Nat.le_trans (HBo5.out.str o ho) (by decide)) HBo5.out.st.okL).mono ?_
        rintro e w6 ⟨sv6, rv6, rfl, hP6, hB6⟩
        obtain ⟨A6, c6, rfl, _, _⟩ := hP6.ss.shape
        obtain ⟨B6, d6, rfl, _, _⟩ := hP6.rs.shape
        have HS6 := Lib.hid (HS5.out.fresh hB6)
        have HBo6 := Lib.hid (HBo5.out.fresh hB6)
        have HP56 := Lib.hid (HP5.out.fresh hB6)
        have HP6 := Lib.hid hP6
        clear hP6 hB6
        go_wp2_with fail
        refine (sameP_any w6 _ _ (ptOf s) (ptOf s) _ _ _ _ HP56.out HP6.out).mono ?_
        rintro e w7 ⟨BS, rfl, hBS, hB7⟩
        obtain rfl : BS = true := hBS.2 rfl
        have HS7 := Lib.hid (HS6.out.fresh hB7)
        have HBo7 := Lib.hid (HBo6.out.fresh hB7)
        clear hBS hB7
        go_wp2_with fail
        refine (alike_any w7 q4 m s F4 W4 M HS7.out HBo7.out.mt (by omega) (by omega) (fun o ho => Nat.le_trans (HBo7.out.str o ho) (by decide)) HBo7.out.st.okL).mono ?_
        rintro e w8 ⟨rfl, hB8⟩
        have HBf8 := Lib.hid (HBo7.out.fresh hB8).bel
        clear hB8
        go_wp2_with fail
        go_ret
        exact ⟨rfl, HBf8.out⟩
end Go.Proofs.YtlfhokcjbgpjhaaGreatDoor
