/- Who is silent: the closures of Tick. Under the stated premises on sizes. -/
import Derived.Test.YtoegdpcfhmjnaaaGreatDoorMstC
namespace Go.Proofs.YtoegdpcfhmjnaaaGreatDoor
open Go.RowKit Go.Bl
attribute [local go_sem ↓] Go.wp_at_zero Go.wp_at_succ

set_option maxRecDepth 20000 in
set_option maxHeartbeats 2000000 in
theorem silent_any {X : Nat → Prop} {w : World} {m p : Nat} {room fail : Int} {vs : List Vw} {s : Ms} {c : Nat} (h : Mst X w m p room fail vs s c) (mb nb : Nat) (now k : Int) (hm : w.cell? ⟨mb, 0, none⟩ = some (.pointer (some ⟨m, 0, none⟩))) (hn : w.cell? ⟨nb, 0, none⟩ = some (.int .i64 now))
    (hk : k ∈ s.v.nodes) (hh : Heard s now) (hnow : now ≤ 1000000000000000) :
    Calls Tryz.prog 39 #[.int .i64 k, .pointer (some ⟨mb, 0, none⟩), .pointer (some ⟨nb, 0, none⟩)] w fun e w' => e = .returned (.bool (s.silent fail now k)) ∧ Below w.heap.size w w' := by
  have hd := hh k hk
  have hB0 : Below w.heap.size w (w.alloc (.cells #[.int .i64 k] 3)) := (Below.refl _ w).alloc (Nat.le_refl _) _
  have hblk := heap_alloc_new w (.cells #[.int .i64 k] 3)
  have h0 := h.fresh hB0
  have hm0 := (hB0.cell (p := ⟨mb, 0, none⟩) (World.block_lt_of_cell? _ _ hm)).trans hm
  have hn0 := (hB0.cell (p := ⟨nb, 0, none⟩) (World.block_lt_of_cell? _ _ hn)).trans hn
  have HB0 := Lib.hid hB0
  have HK0 := Lib.hid hblk
  have H0 := Lib.hid h0
  have HKN := Lib.hid hk
  clear hB0 hblk h h0 hm hn hh hk
  unfold Ms.silent
  obtain ⟨D, hD⟩ : ∃ D, s.hd k = D := ⟨_, rfl⟩
  rw [hD] at hd ⊢
  obtain ⟨B, hB⟩ : ∃ B, s.others k = B := ⟨_, rfl⟩
  rw [hB]
  have HD := Lib.hid hD
  have HBO := Lib.hid hB
  have hw : IntKind.i64.wrap (now - D) = now - D := IntWalk.i64_in _ (by omega)
  clear hD hB
  by_cases hf : fail < now - D
  · have d1 : decide (fail < now - D) = true := decide_eq_true hf
    rw [d1, Bool.true_and]
    clear hf
    go_enter Tryz.func39, Tryz.ntmps39
    go_upto_region 2 with (fail)
    obtain ⟨b, hb⟩ : ∃ b, w.heap.size = b := ⟨_, rfl⟩
    rw [hb] at HK0 ⊢
    generalize w.alloc (.cells #[.int .i64 k] 3) = w1 at HB0 HK0 H0 hm0 hn0 ⊢
    have k0 : w1.cell? ⟨b, 0, none⟩ = some (.int .i64 k) := cell_of_row w1 b 0 _ _ _ HK0.out
    have HBB := Lib.hid hb
    clear hb
    obtain ⟨Y, F, bh, br, va, vb, vc, h⟩ := H0.out
    obtain ⟨c0, c1, c2, c3, c4, c5, c6, c7⟩ := h.cells
    obtain ⟨A, ca, rfl, hA1, hA2⟩ := h.sl.ch.shape_ (n := s.v.L.length) (List.length_map _)
    have hl : ∀ q, (Instr.lookup 87 (.map (some bh)) (.int .i64 k) false).run Tryz.prog (w1.drewN q) = .ok (.int .i64 D) (w1.drewN q) := fun q => by
      have := (h.fresh (below_drewN (Below.refl _ w1) q)).lookH HKN.out
      rw [HD.out] at this
      exact this
    have hc := fun q => contO_any (H0.out.fresh (below_drewN (Below.refl _ w1) q)) (.slice A s.v.L.length ca) F (h.sl.ch.drewN q) mb b k hm0 k0
    rw [HBO.out] at hc
    have HC := Lib.hid hc
    clear hc h c0 c1 c3 c4 c7
    go_quiet (exact (HC.out _).mono fun _ _ h => ⟨h.1, _, h.2.symm⟩)
    go_wp2_with fail
    go_ret
    exact ⟨rfl, below_drewN HB0.out _⟩
  · have d1 : decide (fail < now - D) = false := decide_eq_false hf
    rw [d1, Bool.false_and]
    clear hf
    go_enter Tryz.func39, Tryz.ntmps39
    go_upto_region 2 with (fail)
    obtain ⟨b, hb⟩ : ∃ b, w.heap.size = b := ⟨_, rfl⟩
    rw [hb] at HK0 ⊢
    generalize w.alloc (.cells #[.int .i64 k] 3) = w1 at HB0 HK0 H0 hm0 hn0 ⊢
    have k0 : w1.cell? ⟨b, 0, none⟩ = some (.int .i64 k) := cell_of_row w1 b 0 _ _ _ HK0.out
    have HBB := Lib.hid hb
    clear hb
    obtain ⟨Y, F, bh, br, va, vb, vc, h⟩ := H0.out
    obtain ⟨c0, c1, c2, c3, c4, c5, c6, c7⟩ := h.cells
    obtain ⟨A, ca, rfl, hA1, hA2⟩ := h.sl.ch.shape_ (n := s.v.L.length) (List.length_map _)
    have hl : ∀ q, (Instr.lookup 87 (.map (some bh)) (.int .i64 k) false).run Tryz.prog (w1.drewN q) = .ok (.int .i64 D) (w1.drewN q) := fun q => by
      have := (h.fresh (below_drewN (Below.refl _ w1) q)).lookH HKN.out
      rw [HD.out] at this
      exact this
    have hc := fun q => contO_any (H0.out.fresh (below_drewN (Below.refl _ w1) q)) (.slice A s.v.L.length ca) F (h.sl.ch.drewN q) mb b k hm0 k0
    rw [HBO.out] at hc
    have HC := Lib.hid hc
    clear hc h c0 c1 c3 c4 c7
    go_quiet (fail)
    go_wp2_with fail
    go_ret
    exact ⟨rfl, below_drewN HB0.out _⟩
/-- The place of the first silent node. -/
def FirstS (s : Ms) (fail now : Int) (r : Int) : Prop := (s.v.nodes.find? (s.silent fail now) = none ∧ r = -1) ∨ ∃ (i : Nat) (k : Int), r = (i : Int) ∧ s.v.nodes[i]? = some k ∧ s.v.nodes.find? (s.silent fail now) = some k
theorem find_take {P : Int → Bool} : ∀ {l : List Int} {q : Nat} (h : q < l.length), (∀ e ∈ l.take q, P e = false) → P l[q] = true → l.find? P = some l[q]
  | [], _, h, _, _ => by simp at h
  | x :: l, 0, _, _, h2 => by
    have h2 : P x = true := h2
    simp [h2]
  | x :: l, q + 1, h, h1, h2 => by
    have h3 : P x = false := h1 x (by simp)
    rw [List.find?_cons, h3]
    exact find_take (l := l) (by simpa using h) (fun e he => h1 e (by rw [List.take_succ_cons]; exact List.mem_cons_of_mem _ he)) h2
set_option maxRecDepth 20000 in
set_option maxHeartbeats 1000000 in
theorem indexS_any {X : Nat → Prop} {w : World} {m p : Nat} {room fail : Int} {vs : List Vw} {s : Ms} {c : Nat} (h : Mst X w m p room fail vs s c) (v : Value) (G : Nat → Prop) (hv : Sl w G 1 intc v s.v.nodes) (mb nb : Nat) (now : Int) (hm : w.cell? ⟨mb, 0, none⟩ = some (.pointer (some ⟨m, 0, none⟩))) (hn : w.cell? ⟨nb, 0, none⟩ = some (.int .i64 now))
    (hh : Heard s now) (hnow : now ≤ 1000000000000000) :
    Calls Tryz.prog 42 #[v, .func (.func 39) #[] #[.pointer (some ⟨mb, 0, none⟩), .pointer (some ⟨nb, 0, none⟩)]] w fun e w' => ∃ r : Int, e = .returned (.int .i64 r) ∧ FirstS s fail now r ∧ Below w.heap.size w w' := by
  have hf : ∀ (W : World) (_ : Below w.heap.size w W) x, x ∈ s.v.nodes → Calls Tryz.prog 39 #[.int .i64 x, .pointer (some ⟨mb, 0, none⟩), .pointer (some ⟨nb, 0, none⟩)] W fun e w' => e = .returned (.bool (s.silent fail now x)) ∧ Below W.heap.size W w' := fun W hW x hx =>
    silent_any (h.fresh hW) mb nb now x ((hW.cell (p := ⟨mb, 0, none⟩) (World.block_lt_of_cell? _ _ hm)).trans hm) ((hW.cell (p := ⟨nb, 0, none⟩) (World.block_lt_of_cell? _ _ hn)).trans hn) hx hh hnow
  unfold FirstS
  obtain ⟨A, ca, rfl, hA1, hA2⟩ := hv.shape
  unfold maxLen at hA2
  have HF := Lib.hid hf
  have HV := Lib.hid hv
  obtain ⟨L, hL⟩ : ∃ L, s.v.nodes = L := ⟨_, rfl⟩
  rw [hL] at HF HV hA1 ⊢
  clear hf hv h hm hn hL hh hnow
  go_enter Tryz.func42, Tryz.ntmps42
  go_wp2_with fail
  go_loopw [8, 5] (fun i _ wr => ∃ k' : Nat, k' ≤ L.length ∧ i = .int .i64 k' ∧ Hid (∀ e ∈ L.take k', s.silent fail now e = false) ∧ Below w.heap.size w wr) (fun i _ _ => L.length - (intOf i).toNat)
  case atStart => exact ⟨0, Nat.zero_le _, rfl, Lib.hid (by simp), Below.refl _ _⟩
  case round =>
    obtain ⟨q, hk, rfl, hall, hB⟩ := hrel
    have HB := Lib.hid hB
    by_cases hlt : q < L.length
    · have d0 : decide ((q : Int) < (L.length : Int)) = true := decide_eq_true (by omega)
      obtain ⟨b, o, rfl, _, _, hxx⟩ := (HV.out.fresh HB.out).cell_ hlt
      have x0 := hxx 0 _ rfl
      rw [Nat.mul_one, Nat.add_zero] at x0
      have hc := HF.out wr hB L[q] (List.getElem_mem hlt)
      have htk := List.take_succ_eq_append_getElem hlt
      have hft := find_take (P := s.silent fail now) hlt hall.out
      have hget : L[q]? = some L[q] := List.getElem?_eq_getElem hlt
      obtain ⟨x, hx⟩ : ∃ x, x = L[q] := ⟨_, rfl⟩
      rw [← hx] at x0 hc htk hft hget
      obtain ⟨B, hBB⟩ : ∃ B, s.silent fail now x = B := ⟨_, rfl⟩
      rw [hBB] at hc
      have HC := Lib.hid hc
      have HTK := Lib.hid htk
      have HBB := Lib.hid hBB
      have HFT := Lib.hid hft
      have HGT := Lib.hid hget
      clear hxx hc htk hx hBB hft hget hB
      cases B
      · go_wp2_with fail
        refine HC.out.mono ?_
        rintro e w1 ⟨rfl, hB1⟩
        have HB1 := Lib.hid (HB.out.trans (hB1.mono HB.out.size))
        clear hB1
        go_wp2_with fail
        go_roundw
        case rel =>
          refine ⟨q + 1, hlt, by go_num, Lib.hid fun e he => ?_, HB1.out⟩
          rw [HTK.out, List.mem_append, List.mem_singleton] at he
          rcases he with he | rfl
          · exact hall.out e he
          · exact HBB.out
        case measure => simp [intOf]; omega
      · go_wp2_with fail
        refine HC.out.mono ?_
        rintro e w1 ⟨rfl, hB1⟩
        have HB1 := Lib.hid (HB.out.trans (hB1.mono HB.out.size))
        clear hB1
        go_wp2_with fail
        go_ret
        exact ⟨_, rfl, .inr ⟨q, x, rfl, HGT.out, HFT.out HBB.out⟩, HB1.out⟩
    · have hkl : q = L.length := by omega
      subst hkl
      have d0 : decide ((L.length : Int) < (L.length : Int)) = false := by simp
      have h1 := hall.out
      rw [List.take_length] at h1
      have H1 := Lib.hid h1
      clear h1 hall hB
      go_wp2_with fail
      go_ret
      exact ⟨_, rfl, .inl ⟨List.find?_eq_none.2 fun x hx => by rw [H1.out x hx]; decide, rfl⟩, HB.out⟩
end Go.Proofs.YtoegdpcfhmjnaaaGreatDoor
