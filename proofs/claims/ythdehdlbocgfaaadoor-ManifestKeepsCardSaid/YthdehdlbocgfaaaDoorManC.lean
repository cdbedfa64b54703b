/- The manifest's epochs: Epoch, Raise. Under the stated premises on sizes. -/
import Derived.Test.YthdehdlbocgfaaaDoorManB
namespace Go.Proofs.YthdehdlbocgfaaaDoor
open Go.RowKit Go.Bl
attribute [local go_sem ↓] Go.wp_at_zero Go.wp_at_succ

theorem epochQ {X : Nat → Prop} {w : World} {p : Nat} {d : Dk} (h : Qd X w p d) :
    Calls Tryd.prog 10 #[.pointer (some ⟨p, 0, none⟩)] w fun e w' => e = .returned (.int .i64 (epsS d.mark).1) ∧ Below w.heap.size w w' := by
  have hc := Lib.hid (epochsQ h)
  clear h
  go_enter Tryd.func10, Tryd.ntmps10
  go_wp2_with fail
  refine hc.out.mono ?_
  rintro e w1 ⟨rfl, hB⟩
  go_wp2_with fail
  go_ret
  exact ⟨rfl, hB⟩
/-- The frame of an epoch. -/
def mkF (n : Int) : ByteArray := Bl (frmL crcU (bytesOf (putL n.toNat)))
def Dk.raise (d : Dk) (n : Int) : Int × Dk :=
  if n < 1 ∨ 274877906944 < n then (1, d)
  else if n < (epsS d.mark).1 then (10, d)
  else if n = (epsS d.mark).1 then (if d.find sMark = none then 6 else 0, d.sync sMark)
  else
    let r := if (epsS d.mark).2.2 = true ∧ (epsS d.mark).2.1 ≤ 20 then d.app sMark (mkF n) else d.wr sMark (mkF n)
    if r.1 = 0 then (if r.2.find sMark = none then 6 else 0, r.2.sync sMark) else r
theorem putL_pos (n : Nat) : 0 < (putL n).length := by
  by_cases h : n < 128
  · rw [putL_small h]; simp
  · rw [putL_big h]; simp
theorem epsF_bd : ∀ (l : List (List UInt8)) (a : Int) (i : Nat), 0 ≤ a → a ≤ 274877906944 → 0 ≤ (epsF a i l).1 ∧ (epsF a i l).1 ≤ 274877906944 ∧ (epsF a i l).2.1 ≤ i + l.length
  | [], a, i, h0, h1 => ⟨h0, h1, Nat.le_refl _⟩
  | p :: l, a, i, h0, h1 => by
    unfold epsF
    split
    · rename_i hg
      have := epsF_bd l (tkN p).1 (i + 1) (by omega) hg.2.2.2
      refine ⟨this.1, this.2.1, ?_⟩
      rw [List.length_cons]
      omega
    · exact ⟨h0, h1, Nat.le_add_right _ _⟩
theorem mark_len {X : Nat → Prop} {w : World} {p : Nat} {d : Dk} (h : Qd X w p d) : d.mark.length ≤ 1073741824 := by
  unfold Dk.mark
  cases hf : d.find sMark with
  | none => simp
  | some f =>
    have h1 := total_mem (find_some hf).1
    have h2 := h.ok.used
    have h3 := h.ok.room2
    show (Lb f.bytes).length ≤ _
    rw [Lb_len]
    omega
set_option maxRecDepth 8000 in
set_option maxHeartbeats 2000000 in
theorem raiseQ {X : Nat → Prop} {w : World} {p : Nat} {d : Dk} (h : Qd X w p d) (n : Int) :
    Calls Tryd.prog 8 #[.pointer (some ⟨p, 0, none⟩), .int .i64 n] w fun e w' => e = .returned (.int .i64 (d.raise n).1) ∧ Qd X w' p (d.raise n).2 ∧ Kx X w w' := by
  have hc := epochsQ h
  have hml := mark_len h
  have hbd := epsF_bd (scanS crcU d.mark).1 0 0 (by omega) (by omega)
  have hsl := scanS_len crcU _ d.mark (Nat.le_refl _)
  have H := Lib.hid h
  have HR : Hid (d.raise n = if n < 1 ∨ 274877906944 < n then (1, d)
      else if n < (epsS d.mark).1 then (10, d)
      else if n = (epsS d.mark).1 then (if d.find sMark = none then 6 else 0, d.sync sMark)
      else if ((if (epsS d.mark).2.2 = true ∧ (epsS d.mark).2.1 ≤ 20 then d.app sMark (mkF n) else d.wr sMark (mkF n))).1 = 0 then (if ((if (epsS d.mark).2.2 = true ∧ (epsS d.mark).2.1 ≤ 20 then d.app sMark (mkF n) else d.wr sMark (mkF n))).2.find sMark = none then 6 else 0, ((if (epsS d.mark).2.2 = true ∧ (epsS d.mark).2.1 ≤ 20 then d.app sMark (mkF n) else d.wr sMark (mkF n))).2.sync sMark) else (if (epsS d.mark).2.2 = true ∧ (epsS d.mark).2.1 ≤ 20 then d.app sMark (mkF n) else d.wr sMark (mkF n))) := Lib.hid rfl
  obtain ⟨a, ha⟩ : ∃ a, a = (epsS d.mark).1 := ⟨_, rfl⟩
  obtain ⟨m, hm⟩ : ∃ a, a = (epsS d.mark).2.1 := ⟨_, rfl⟩
  obtain ⟨b, hb⟩ : ∃ a, a = (epsS d.mark).2.2 := ⟨_, rfl⟩
  have ha1 : 0 ≤ a := by rw [ha]; exact hbd.1
  have ha2 : a ≤ 274877906944 := by rw [ha]; exact hbd.2.1
  have hm2 : m ≤ 1073741824 := by
    have h1 : m ≤ 0 + (scanS crcU d.mark).1.length := by rw [hm]; exact hbd.2.2
    omega
  rw [← ha, ← hm, ← hb] at hc HR
  have HC := Lib.hid hc
  clear h hc hbd hsl ha hm hb hml
  by_cases g1 : n < 1 ∨ 274877906944 < n
  · rw [if_pos g1] at HR
    have G := Lib.hid g1
    clear g1
    go_enter Tryd.func8, Tryd.ntmps8
    go_wp2_with fail
    refine HC.out.mono ?_
    rintro e w1 ⟨rfl, hB⟩
    have H1 := Lib.hid (H.out.fresh hB)
    have K1 := Lib.hid (Kx.of_below (X := X) hB)
    clear hB
    go_wp2_with fail
    all_goals first
      | (exfalso; have := G.out; omega)
      | (go_ret; rw [HR.out]; exact ⟨rfl, H1.out, K1.out⟩)
  · rw [if_neg g1] at HR
    have n1 : 1 ≤ n := by omega
    have n2 : n ≤ 274877906944 := by omega
    have d1 : decide (n < 1) = false := by simp; omega
    have d2 : decide (274877906944 < n) = false := by simp; omega
    by_cases g2 : n < a
    · rw [if_pos g2] at HR
      clear g1
      go_enter Tryd.func8, Tryd.ntmps8
      go_wp2_with fail
      refine HC.out.mono ?_
      rintro e w1 ⟨rfl, hB⟩
      have H1 := Lib.hid (H.out.fresh hB)
      have K1 := Lib.hid (Kx.of_below (X := X) hB)
      clear hB
      go_wp2_with fail
      go_ret
      rw [HR.out]
      exact ⟨rfl, H1.out, K1.out⟩
    · rw [if_neg g2] at HR
      have d3 : decide (n < a) = false := by simp; omega
      by_cases g3 : n = a
      · rw [if_pos g3] at HR
        have d4 : (n == a) = true := by rw [beq_iff_eq]; exact g3
        clear g1 g3
        go_enter Tryd.func8, Tryd.ntmps8
        go_wp2_with fail
        refine HC.out.mono ?_
        rintro e w1 ⟨rfl, hB⟩
        have H1 := Lib.hid (H.out.fresh hB)
        have K1 := Lib.hid (Kx.of_below (X := X) hB)
        clear hB
        go_wp2_with fail
        refine (syncQ H1.out ⟨#[101, 112, 111, 99, 104]⟩ (by decide)).mono ?_
        rintro e w2 ⟨rfl, h2, k2⟩
        have H2 := Lib.hid h2
        have K2 := Lib.hid (K1.out.trans k2)
        clear h2 k2
        obtain ⟨ev, hev⟩ : ∃ ev : Int, (if d.find ⟨#[101, 112, 111, 99, 104]⟩ = none then (6 : Int) else 0) = ev := ⟨_, rfl⟩
        rw [hev]
        have HR2 : Hid (d.raise n = (ev, d.sync ⟨#[101, 112, 111, 99, 104]⟩)) := Lib.hid (by rw [HR.out, ← hev]; rfl)
        clear hev
        go_wp2_with fail
        go_ret
        rw [HR2.out]
        exact ⟨rfl, H2.out, K2.out⟩
      · rw [if_neg g3] at HR
        have d4 : (n == a) = false := by rw [beq_eq_false_iff_ne]; exact g3
        obtain ⟨N, hN⟩ : ∃ N : Nat, N = n.toNat := ⟨_, rfl⟩
        have hNn : (n : Int) = (N : Int) := by omega
        have hp := fun W => put_any W n N (by unfold holdI gmax gmin; omega)
        obtain ⟨q, hq⟩ : ∃ q, q = putB N := ⟨_, rfl⟩
        have hq1 : Lb q = bytesOf (putL N) := by rw [hq]; rfl
        have hqs : q.size = (putL N).length := by rw [← Lb_len, hq1]; unfold bytesOf; rw [List.length_map]
        have hq2 := putL_len 5 N (by omega)
        have hq3 := putL_pos N
        have hf := fun W => framePut_any W q (by omega) (by omega)
        obtain ⟨f, hff⟩ : ∃ f, f = Bl (frmL crcU (Lb q)) := ⟨_, rfl⟩
        have hfm : mkF n = f := by rw [hff, hq1, hN]; rfl
        have hfs : f.size ≤ 20 := by
          rw [hff, Bl_size]
          unfold frmL
          rw [List.length_append, List.length_append, fixL_len, fixL_len, Lb_len]
          omega
        rw [← hq] at hp
        rw [← hff] at hf
        rw [hfm] at HR
        have HP := Lib.hid hp
        have HF := Lib.hid hf
        clear hp hf hfm hff hq2 hq3 hqs hq1 hq hNn hN g1 g3
        have hfs2 : f.size ≤ 1000000000000000 := by omega
        by_cases g4 : b = true ∧ m ≤ 20
        · simp only [if_pos g4] at HR
          obtain ⟨rfl, g5⟩ := g4
          have d5 : decide ((m : Int) ≤ 20) = true := by simp; omega
          go_enter Tryd.func8, Tryd.ntmps8
          go_wp2_with fail
          refine HC.out.mono ?_
          rintro e w1 ⟨rfl, hB⟩
          have H1 := Lib.hid (H.out.fresh hB)
          have K1 := Lib.hid (Kx.of_below (X := X) hB)
          clear hB
          go_wp2_with fail
          refine (HP.out _).mono ?_
          rintro e w2 ⟨rfl, hB⟩
          have H2 := Lib.hid (H1.out.fresh hB)
          have K2 := Lib.hid (K1.out.trans (Kx.of_below (X := X) hB))
          clear hB
          go_wp2_with fail
          refine (HF.out _).mono ?_
          rintro e w3 ⟨rfl, hB⟩
          have H3 := Lib.hid (H2.out.fresh hB)
          have K3 := Lib.hid (K2.out.trans (Kx.of_below (X := X) hB))
          clear hB
          go_wp2_with fail
          refine (appendQ H3.out ⟨#[101, 112, 111, 99, 104]⟩ f (by decide) hfs2).mono ?_
          rintro e w4 ⟨rfl, h4, k4⟩
          rw [show (⟨#[101, 112, 111, 99, 104]⟩ : ByteArray) = sMark from rfl] at h4 ⊢
          obtain ⟨er, her⟩ : ∃ ev : Int, (d.app sMark f).1 = ev := ⟨_, rfl⟩
          obtain ⟨D, hD⟩ : ∃ ev : Dk, (d.app sMark f).2 = ev := ⟨_, rfl⟩
          rw [hD] at h4
          rw [her]
          have hpr : (d.app sMark f) = (er, D) := by rw [← her, ← hD]
          rw [her, hD] at HR
          have H4 := Lib.hid h4
          have K4 := Lib.hid (K3.out.trans k4)
          clear k4
          have HPR := Lib.hid hpr
          clear h4 her hD hpr
          by_cases e0 : er = 0
          · rw [if_pos e0] at HR
            subst e0
            go_wp2_with fail
            refine (syncQ H4.out ⟨#[101, 112, 111, 99, 104]⟩ (by decide)).mono ?_
            rintro e w5 ⟨rfl, h5, k5⟩
            have H5 := Lib.hid h5
            have K5 := Lib.hid (K4.out.trans k5)
            clear h5 k5
            obtain ⟨ev, hev⟩ : ∃ ev : Int, (if D.find ⟨#[101, 112, 111, 99, 104]⟩ = none then (6 : Int) else 0) = ev := ⟨_, rfl⟩
            rw [hev]
            have HR2 : Hid (d.raise n = (ev, D.sync ⟨#[101, 112, 111, 99, 104]⟩)) := Lib.hid (by rw [HR.out, ← hev]; rfl)
            clear hev
            go_wp2_with fail
            go_ret
            rw [HR2.out]
            exact ⟨rfl, H5.out, K5.out⟩
          · rw [if_neg e0] at HR
            have en : (er != 0) = true := by simpa using e0
            have HR2 : Hid (d.raise n = (er, D)) := Lib.hid (HR.out.trans HPR.out)
            clear HR e0
            go_wp2_with fail
            go_ret
            rw [HR2.out]
            exact ⟨rfl, H4.out, K4.out⟩
        · simp only [if_neg g4] at HR
          have G4 := Lib.hid g4
          clear g4
          go_enter Tryd.func8, Tryd.ntmps8
          go_wp2_with fail
          refine HC.out.mono ?_
          rintro e w1 ⟨rfl, hB⟩
          have H1 := Lib.hid (H.out.fresh hB)
          have K1 := Lib.hid (Kx.of_below (X := X) hB)
          clear hB
          go_wp2_with fail
          refine (HP.out _).mono ?_
          rintro e w2 ⟨rfl, hB⟩
          have H2 := Lib.hid (H1.out.fresh hB)
          have K2 := Lib.hid (K1.out.trans (Kx.of_below (X := X) hB))
          clear hB
          go_wp2_with fail
          refine (HF.out _).mono ?_
          rintro e w3 ⟨rfl, hB⟩
          have H3 := Lib.hid (H2.out.fresh hB)
          have K3 := Lib.hid (K2.out.trans (Kx.of_below (X := X) hB))
          clear hB
          cases b with
          | false =>
            go_wp2_with fail
            refine (writeQ H3.out ⟨#[101, 112, 111, 99, 104]⟩ f (by decide) hfs2).mono ?_
            rintro e w4 ⟨rfl, h4, k4⟩
            rw [show (⟨#[101, 112, 111, 99, 104]⟩ : ByteArray) = sMark from rfl] at h4 ⊢
            obtain ⟨er, her⟩ : ∃ ev : Int, (d.wr sMark f).1 = ev := ⟨_, rfl⟩
            obtain ⟨D, hD⟩ : ∃ ev : Dk, (d.wr sMark f).2 = ev := ⟨_, rfl⟩
            rw [hD] at h4
            rw [her]
            have hpr : (d.wr sMark f) = (er, D) := by rw [← her, ← hD]
            rw [her, hD] at HR
            have H4 := Lib.hid h4
            have K4 := Lib.hid (K3.out.trans k4)
            clear k4
            have HPR := Lib.hid hpr
            clear h4 her hD hpr
            by_cases e0 : er = 0
            · rw [if_pos e0] at HR
              subst e0
              go_wp2_with fail
              refine (syncQ H4.out ⟨#[101, 112, 111, 99, 104]⟩ (by decide)).mono ?_
              rintro e w5 ⟨rfl, h5, k5⟩
              have H5 := Lib.hid h5
              have K5 := Lib.hid (K4.out.trans k5)
              clear h5 k5
              obtain ⟨ev, hev⟩ : ∃ ev : Int, (if D.find ⟨#[101, 112, 111, 99, 104]⟩ = none then (6 : Int) else 0) = ev := ⟨_, rfl⟩
              rw [hev]
              have HR2 : Hid (d.raise n = (ev, D.sync ⟨#[101, 112, 111, 99, 104]⟩)) := Lib.hid (by rw [HR.out, ← hev]; rfl)
              clear hev
              go_wp2_with fail
              go_ret
              rw [HR2.out]
              exact ⟨rfl, H5.out, K5.out⟩
            · rw [if_neg e0] at HR
              have en : (er != 0) = true := by simpa using e0
              have HR2 : Hid (d.raise n = (er, D)) := Lib.hid (HR.out.trans HPR.out)
              clear HR e0
              go_wp2_with fail
              go_ret
              rw [HR2.out]
              exact ⟨rfl, H4.out, K4.out⟩
          | true =>
            have d5 : decide ((m : Int) ≤ 20) = false := by
              rw [decide_eq_false_iff_not]
              intro e
              exact G4.out ⟨rfl, by omega⟩
            go_wp2_with fail
            refine (writeQ H3.out ⟨#[101, 112, 111, 99, 104]⟩ f (by decide) hfs2).mono ?_
            rintro e w4 ⟨rfl, h4, k4⟩
            rw [show (⟨#[101, 112, 111, 99, 104]⟩ : ByteArray) = sMark from rfl] at h4 ⊢
            obtain ⟨er, her⟩ : ∃ ev : Int, (d.wr sMark f).1 = ev := ⟨_, rfl⟩
            obtain ⟨D, hD⟩ : ∃ ev : Dk, (d.wr sMark f).2 = ev := ⟨_, rfl⟩
            rw [hD] at h4
            rw [her]
            have hpr : (d.wr sMark f) = (er, D) := by rw [← her, ← hD]
            rw [her, hD] at HR
            have H4 := Lib.hid h4
            have K4 := Lib.hid (K3.out.trans k4)
            clear k4
            have HPR := Lib.hid hpr
            clear h4 her hD hpr
            by_cases e0 : er = 0
            · rw [if_pos e0] at HR
              subst e0
              go_wp2_with fail
              refine (syncQ H4.out ⟨#[101, 112, 111, 99, 104]⟩ (by decide)).mono ?_
              rintro e w5 ⟨rfl, h5, k5⟩
              have H5 := Lib.hid h5
              have K5 := Lib.hid (K4.out.trans k5)
              clear h5 k5
              obtain ⟨ev, hev⟩ : ∃ ev : Int, (if D.find ⟨#[101, 112, 111, 99, 104]⟩ = none then (6 : Int) else 0) = ev := ⟨_, rfl⟩
              rw [hev]
              have HR2 : Hid (d.raise n = (ev, D.sync ⟨#[101, 112, 111, 99, 104]⟩)) := Lib.hid (by rw [HR.out, ← hev]; rfl)
              clear hev
              go_wp2_with fail
              go_ret
              rw [HR2.out]
              exact ⟨rfl, H5.out, K5.out⟩
            · rw [if_neg e0] at HR
              have en : (er != 0) = true := by simpa using e0
              have HR2 : Hid (d.raise n = (er, D)) := Lib.hid (HR.out.trans HPR.out)
              clear HR e0
              go_wp2_with fail
              go_ret
              rw [HR2.out]
              exact ⟨rfl, H4.out, K4.out⟩
end Go.Proofs.YthdehdlbocgfaaaDoor
