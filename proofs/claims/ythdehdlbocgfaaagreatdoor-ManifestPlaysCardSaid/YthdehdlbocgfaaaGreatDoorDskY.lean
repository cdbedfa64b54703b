/- The document's disk: Crash. Under the stated premises on sizes. -/
import Derived.Test.YthdehdlbocgfaaaGreatDoorDskX
namespace Go.Proofs.YthdehdlbocgfaaaGreatDoor
open Go.RowKit Go.Bl
attribute [local go_sem ↓] Go.wp_at_zero Go.wp_at_succ

theorem MdIn.setI {w1 : World} {m g n c : Nat} {room : Int} {S : List Fl} {F : Nat → Prop} (h : MdIn w1 m room S F (.slice (some ⟨g, 0, none⟩) n c)) {i : Nat} (hi : i < S.length) {j : Nat} (hj : j < 3) {x : Fl} {u : Value} (hx : filc x = (filc S[i]).set j u) :
    MdIn (w1.setCell ⟨g, i * 3 + j, none⟩ u) m room (S.set i x) F (.slice (some ⟨g, 0, none⟩) n c) ∧ Keeps F w1 (w1.setCell ⟨g, i * 3 + j, none⟩ u) := by
  have hg : F g := h.fv g rfl
  have hgm : g ≠ m := fun e => h.vp (by rw [← e]; rfl)
  have hks : Keeps (fun q => q = g) w1 (w1.setCell ⟨g, i * 3 + j, none⟩ u) := (Keeps.refl (fun q => q = g) w1).setCell (p := ⟨g, i * 3 + j, none⟩) (fun _ => rfl) u
  exact ⟨⟨hks.grownTo h.blk (fun e => hgm e.symm), h.row.set elFl.len hi hj hx, h.fm, h.fv, fun k hk => Nat.lt_of_lt_of_le (h.lt k hk) hks.size⟩, hks.mono (fun q _ e => e ▸ hg)⟩
theorem MdIn.drew {w : World} {m : Nat} {room : Int} {S : List Fl} {F : Nat → Prop} {v : Value} (h : MdIn w m room S F v) : MdIn w.drew m room S F v := h.fresh ⟨rfl, rfl, rfl, Nat.le_refl _, fun _ _ => rfl⟩
theorem MdIn.row3 {w1 : World} {m g n c : Nat} {room : Int} {S : List Fl} {F : Nat → Prop} (h : MdIn w1 m room S F (.slice (some ⟨g, 0, none⟩) n c)) {i : Nat} (hi : i < S.length) (x : Fl) :
    MdIn (((w1.setCell ⟨g, i * 3, none⟩ (.string x.name)).setCell ⟨g, i * 3 + 1, none⟩ (.string x.bytes)).setCell ⟨g, i * 3 + 2, none⟩ (.int .i64 x.syn)) m room (S.set i x) F (.slice (some ⟨g, 0, none⟩) n c) ∧
      Keeps F w1 (((w1.setCell ⟨g, i * 3, none⟩ (.string x.name)).setCell ⟨g, i * 3 + 1, none⟩ (.string x.bytes)).setCell ⟨g, i * 3 + 2, none⟩ (.int .i64 x.syn)) := by
  obtain ⟨h1, k1⟩ := h.setI hi (j := 0) (by decide) (x := ⟨x.name, S[i].bytes, S[i].syn⟩) (u := .string x.name) rfl
  obtain ⟨h2, k2⟩ := h1.setI (i := i) (by simpa using hi) (j := 1) (by decide) (x := ⟨x.name, x.bytes, S[i].syn⟩) (u := .string x.bytes) (by rw [List.getElem_set_self]; rfl)
  obtain ⟨h3, k3⟩ := h2.setI (i := i) (by simpa using hi) (j := 2) (by decide) (x := x) (u := .int .i64 x.syn) (by rw [List.getElem_set_self]; rfl)
  rw [List.set_set, List.set_set] at h3
  exact ⟨h3, (k1.trans k2).trans k3⟩
set_option maxRecDepth 8000 in
set_option maxHeartbeats 4000000 in
theorem mcrash_any (w : World) (m : Nat) (d : Dk) (F G : Nat → Prop) (h : MdD w m d F) (hl : d.L.length ≤ 1000) (hok : ∀ f ∈ d.L, 0 ≤ f.syn ∧ f.syn ≤ f.bytes.size ∧ f.bytes.size ≤ 1073741824) (kv : Value) (keep : List Int) (hkv : Sl w G 1 intc kv keep) (hG : ∀ k, G k → ¬ F k) :
    Calls Tryz.prog 26 #[.pointer (some ⟨m, 0, none⟩), kv] w fun e w' => e = .returned (.tuple #[]) ∧ ∃ ks, Names d.L ks ∧ MOut w w' m ⟨d.room, crashN keep ks d.L ks.length⟩ F := by
  obtain ⟨S, ⟨v, hS⟩, hs⟩ := h
  obtain ⟨A, c, rfl, hA1, hA2⟩ := hkv.shape
  unfold maxLen at hA2
  have hlen : S.length ≤ 1000 := by rw [hs.perm.length_eq]; exact hl
  have hokS : ∀ f ∈ S, 0 ≤ f.syn ∧ f.syn ≤ f.bytes.size ∧ f.bytes.size ≤ 1073741824 := fun f hf => hok f (hs.perm.mem_iff.1 hf)
  obtain ⟨Av, cv, rfl, hc1, hc2⟩ := hS.row.shape_ (n := S.length) rfl
  unfold maxLen at hc2
  have hmx := @run_gmax Tryz.prog
  have hmn := @run_gmin Tryz.prog
  have hmm : ∀ a b : Int, gmax a b = gmax b a := fun a b => by unfold gmax; omega
  have HMM := Lib.hid hmm
  have HS := Lib.hid hS
  have HK := Lib.hid hkv
  have HOK := Lib.hid hokS
  have Hs := Lib.hid hs
  have HG := Lib.hid hG
  clear hS hkv hokS hok hs hmm hG
  go_enter Tryz.func26, Tryz.ntmps26
  go_wp2_with fail
  go_loopw [4, 5, 6] (fun i _ _ wr => ∃ k : Nat, k ≤ S.length ∧ i = .int .i64 k ∧ MdIn wr m d.room (crashN keep (S.map Fl.name) S k) F (.slice Av S.length cv) ∧ Keeps F w wr) (fun i _ _ _ => S.length - (RowKit.intOf i).toNat)
  case atStart => exact ⟨0, Nat.zero_le _, rfl, HS.out, Keeps.refl _ _⟩
  case round =>
    obtain ⟨k, hk, rfl, hI, hkw⟩ := hrel
    have c0 := hI.c0
    have HKW := Lib.hid hkw
    by_cases hlt : k < S.length
    · have hCl := crash_len keep (S.map Fl.name) S k
      have hat := crash_at keep Hs.out.rise k k (Nat.le_refl _) hlt
      have hcs := crash_set keep Hs.out.rise hlt
      obtain ⟨f, hf⟩ : ∃ f, S[k] = f := ⟨_, rfl⟩
      obtain ⟨hy1, hy2, hy3⟩ := HOK.out S[k] (List.getElem_mem hlt)
      rw [hf] at hat hcs hy1 hy2 hy3
      generalize crashN keep (S.map Fl.name) S k = C at hI hCl hat hcs
      obtain ⟨hkC, hCk⟩ := List.getElem?_eq_some_iff.1 hat
      obtain ⟨g, c3, cur, hv, hc3, hc4, hg⟩ := hI.head (by omega)
      injection hv with hv1 hv2 hv3
      subst hv1 hv3
      obtain ⟨b, o, e, _, _, hxx⟩ := (hI.row.sl elFl.len).cell_ hkC
      injection e with e
      injection e with e1 e2 _
      subst e1 e2
      rw [hCk] at hxx
      have x0 := hxx 0 _ rfl
      have x1 := hxx 1 _ rfl
      have x2 := hxx 2 _ rfl
      simp only [Nat.zero_add, Nat.add_zero] at x0 x1 x2
      have hk0 : (0 : Int) ≤ (k : Int) := by omega
      have hk1 : (k : Int) < (S.length : Int) := by omega
      have hn0 := keepOf_nonneg keep k
      have hKb := cutK_in hn0 ⟨hy1, hy2⟩
      obtain ⟨K, hK⟩ : ∃ K : Nat, cutK (keepOf keep k) f = (K : Int) := ⟨(cutK (keepOf keep k) f).toNat, by omega⟩
      rw [hK] at hKb
      have hKn : K ≤ f.bytes.size := by omega
      have hKs := extract_size f.bytes hKn
      have HK0 := Lib.hid hK
      unfold cutK at hK
      have HKr := Lib.hid (HK.out.keep hkw (fun q _ hq hx => HG.out q hq hx))
      have HI := Lib.hid hI
      have HCS := Lib.hid hcs
      have HCK := Lib.hid hCk
      have HCL := Lib.hid hCl
      clear hI hkw hxx hg hat hf hcs hCk hCl
      go_upto_if 19 with (fail)
      go_cut [5] (fun s5 wx => s5 = .int .i64 (keepOf keep k) ∧ wr = wx)
      case first =>
        by_cases hki : k < keep.length
        · obtain ⟨bk, ok, rfl, _, _, hxk⟩ := HKr.out.cell_ hki
          have y0 := hxk 0 _ rfl
          simp only [Nat.mul_one, Nat.add_zero] at y0
          clear hxk c0 x0 x1 x2
          go_wp2_with fail
          go_meet
          exact ⟨by rw [← keepOf_in hki, HMM.out], rfl⟩
        · clear c0 x0 x1 x2
          go_wp2_with fail
          go_meet
          exact ⟨by rw [keepOf_out hki], rfl⟩
      case rest =>
        obtain ⟨rfl, rfl⟩ := hcut
        go_upto_region 7 with (fail)
        have hblk3 := heap_alloc_new wr (.cells #[.string f.name, .string f.bytes, .int .i64 f.syn] 104)
        have hb3 : Below wr.heap.size wr (wr.alloc (.cells #[.string f.name, .string f.bytes, .int .i64 f.syn] 104)) := (Below.refl _ wr).alloc (Nat.le_refl _) _
        obtain ⟨q, hq⟩ : ∃ q, wr.heap.size = q := ⟨_, rfl⟩
        rw [hq] at hblk3 ⊢
        have HB3 := Lib.hid hb3
        clear hb3 c0 x0 x1 x2
        generalize wr.alloc (.cells #[.string f.name, .string f.bytes, .int .i64 f.syn] 104) = w3 at hblk3 HB3 ⊢
        have q0 : w3.cell? ⟨q, 0, none⟩ = some (.string f.name) := cell_of_row w3 q 0 _ _ _ hblk3
        have q1 : w3.cell? ⟨q, 1, none⟩ = some (.string f.bytes) := cell_of_row w3 q 1 _ _ _ hblk3
        have q2 : w3.cell? ⟨q, 2, none⟩ = some (.int .i64 f.syn) := cell_of_row w3 q 2 _ _ _ hblk3
        have f1 : w3.frozen? ⟨q, 1, none⟩ = false := frozen_block hblk3 1
        have HL3 := Lib.hid hblk3
        clear hblk3
        go_upto_region 9 with (fail)
        have hk4 := Keeps.one w3 q 1 (.string (f.bytes.extract 0 K))
        have hblk4 := setCell_block (o := 1) HL3.out (.string (f.bytes.extract 0 K))
        generalize w3.setCell ⟨q, 1, none⟩ (.string (f.bytes.extract 0 K)) = w4 at hk4 hblk4 ⊢
        clear q0 q1 q2 f1
        have q1 : w4.cell? ⟨q, 1, none⟩ = some (.string (f.bytes.extract 0 K)) := cell_of_row w4 q 1 _ _ _ hblk4
        have q2 : w4.cell? ⟨q, 2, none⟩ = some (.int .i64 f.syn) := cell_of_row w4 q 2 _ _ _ hblk4
        have f2 : w4.frozen? ⟨q, 2, none⟩ = false := frozen_block hblk4 2
        have HL4 := Lib.hid hblk4
        have HK4 := Lib.hid hk4
        clear hblk4 hk4
        go_upto_region 10 with (fail)
        have hk5 := Keeps.one w4 q 2 (.int .i64 K)
        have hblk5 := setCell_block (o := 2) HL4.out (.int .i64 K)
        generalize w4.setCell ⟨q, 2, none⟩ (.int .i64 K) = w5 at hk5 hblk5 ⊢
        clear q1 q2 f2
        have q0 : w5.cell? ⟨q, 0, none⟩ = some (.string f.name) := cell_of_row w5 q 0 _ _ _ hblk5
        have q1 : w5.cell? ⟨q, 1, none⟩ = some (.string (f.bytes.extract 0 K)) := cell_of_row w5 q 1 _ _ _ hblk5
        have q2 : w5.cell? ⟨q, 2, none⟩ = some (.int .i64 K) := cell_of_row w5 q 2 _ _ _ hblk5
        have hlw := HI.out.lt
        rw [hq] at hlw
        have hnq : ∀ k, F k → k ≠ q := fun k hk e => Nat.lt_irrefl _ (e ▸ hlw k hk)
        have hI3 := HI.out.fresh HB3.out
        have hI5 := (hI3.keep HK4.out hnq).keep hk5 hnq
        have c0 := hI5.c0
        obtain ⟨g', c', cur', hv, _, _, hg5⟩ := hI5.head (by omega)
        injection hv with hv1 hv2 hv3
        clear hv2 hv3
        injection hv1 with hv1
        injection hv1 with hv1 hv2 hv3
        clear hv2 hv3
        subst hv1
        obtain ⟨b, o, e, _, _, hxx⟩ := (hI5.row.sl elFl.len).cell_ hkC
        injection e with e
        injection e with e1 e2 e3
        clear e3
        subst e1 e2
        rw [HCK.out] at hxx
        have z0 := hxx 0 _ rfl
        have z1 := hxx 1 _ rfl
        have z2 := hxx 2 _ rfl
        simp only [Nat.zero_add, Nat.add_zero] at z0 z1 z2
        clear hxx
        have f0 : w5.frozen? ⟨g, k * 3, none⟩ = false := frozen_block hg5 _
        have f1 : w5.frozen? ⟨g, k * 3 + 1, none⟩ = false := frozen_block hg5 _
        have f2 : w5.frozen? ⟨g, k * 3 + 2, none⟩ = false := frozen_block hg5 _
        have HI5 := Lib.hid hI5
        have HK5 := Lib.hid hk5
        clear hI3 hI5 hk5 hblk5 hg5
        go_still_tail 7, (by kernel_rfl)
        change wpList _ _ _ _ _ w5.drew
        go_wp2_with fail
        go_roundw
        case rel =>
          have hx : (⟨f.name, f.bytes.extract 0 K, K⟩ : Fl) = cutF (keepOf keep k) f := by
            unfold cutF
            rw [HK0.out, Int.toNat_natCast]
          obtain ⟨r1, r2⟩ := HI5.out.row3 hkC ⟨f.name, f.bytes.extract 0 K, K⟩
          have hC := HCS.out
          rw [← hx] at hC
          rw [← hC] at r1
          have hkk : Keeps F wr w5 := (((Keeps.of_fresh HB3.out F).andThen HK4.out (fun i hi e => absurd hi (by omega))).andThen HK5.out (fun i hi e => absurd hi (by omega)))
          exact ⟨k + 1, hlt, by go_num, r1.drew, (HKW.out.trans (hkk.trans r2)).drew⟩
        case measure => simp [RowKit.intOf]; omega
    · have hkd : k = S.length := by omega
      subst hkd
      have HI := Lib.hid hI
      clear hI hkw
      go_wp2_with fail
      go_end0
      refine ⟨rfl, S.map Fl.name, Hs.out.names, HKW.out, _, (show MdAt _ _ _ _ _ from ⟨_, HI.out⟩).wide w.heap.size, ?_⟩
      rw [List.length_map]
      exact Hs.out.crash _ _ _
end Go.Proofs.YthdehdlbocgfaaaGreatDoor
