/- Open on a disk that has no file. Under the stated premises on sizes. -/
import Derived.Test.YtoegdpcfhmjnaaaGreatDoorMstK
import Derived.Lib.SliceRun
namespace Go.Proofs.YtoegdpcfhmjnaaaGreatDoor
open Go.RowKit Go.Bl
attribute [local go_sem ↓] Go.wp_at_zero Go.wp_at_succ

def v0 (first : List Int) : Vw := ⟨1, first.map fun n => ⟨n, 1, 0⟩⟩
/-- Who is heard, as far as it has come. -/
def ghF (first : List Int) (now : Int) (j : Nat) (x : Int) : Option Value := if x ∈ first.take j then some (.int .i64 now) else none
theorem v0_node (l : List Int) : (v0 l).L.map Nd.node = l := by
  show (l.map _).map _ = _
  rw [List.map_map]
  exact (List.map_congr_left (fun _ _ => rfl)).trans (List.map_id l)
theorem v0_since (l : List Int) : (v0 l).L.map Nd.since = List.replicate l.length 1 := by
  show (l.map _).map _ = _
  rw [List.map_map, List.map_eq_replicate_iff]
  exact fun _ _ => rfl
theorem v0_boot (l : List Int) : (v0 l).L.map Nd.boot = List.replicate l.length 0 := by
  show (l.map _).map _ = _
  rw [List.map_map, List.map_eq_replicate_iff]
  exact fun _ _ => rfl
/-- What Open answers on a new disk. -/
def OpenR (X : Nat → Prop) (w w' : World) (p : Nat) (room fail now : Int) (first : List Int) (e : Ending) : Prop :=
  (4 ≤ fail ∧ fail ≤ 1073741824 ∧ RightV (v0 first) → ∃ m, e = .returned (.tuple #[.pointer (some ⟨m, 0, none⟩), .int .i64 0]) ∧ Mst X w' m p room fail [v0 first] ⟨v0 first, fun _ => now, fun _ => 0⟩ 6 ∧ Kx X w w') ∧
  (¬ (4 ≤ fail ∧ fail ≤ 1073741824 ∧ RightV (v0 first)) → e = .returned (.tuple #[.pointer none, .int .i64 1]) ∧ Below w.heap.size w w')
/-- A round of the first loop. -/
def OpR (w2 : World) (q : Nat) (a0 : Value) (k : Nat) (wr : World) : Prop :=
  ∃ b c, wr.heap[q]? = some (.cells #[.int .i64 1, a0, b, c] 45 (0, 0)) ∧ Go.Bl.Own wr w2.heap.size 3 1 intc b (List.replicate k 1) ∧ Go.Bl.Own wr w2.heap.size 3 1 intc c (List.replicate k 0) ∧ (∀ x, b.ownBlock = some x → c.ownBlock ≠ some x) ∧ Keeps (fun k => k = q) w2 wr
set_option maxRecDepth 8000 in
theorem cloneE_any (w : World) (q : Addr) (c : Nat) : Calls Tryz.prog 30 #[.slice (some q) 0 c] w fun e w' => ∃ v', e = .returned v' ∧ Sl w' (fun k => w.heap.size ≤ k) 1 intc v' [] ∧ Below w.heap.size w w' := by
  have hm := Go.Bl.Own.made (enc := intc) w (Nat.le_refl _) 3 1
  have hb : Below w.heap.size w (w.alloc (.cells #[] 3)) := (Below.refl _ w).alloc (Nat.le_refl _) _
  have he : (binOp .eql 22 (.slice (some q) 0 c) (.slice none 0 0)).run Tryz.prog w = .ok (.bool false) w := Go.Lib.run_eql_slice_nil w 22 3 (some q) 0 c 0 0 Tryz.underlying22
  have HM := Lib.hid hm
  have HB := Lib.hid hb
  clear hm hb
  go_enter Tryz.func30, Tryz.ntmps30
  go_wp2_with fail
  go_ret
  exact ⟨_, rfl, Own.since (w := w) HM.out (Nat.le_refl _), HB.out⟩
theorem cloneS_any (w : World) (a : Option Addr) (n c : Nat) (l : List Int) (F : Nat → Prop) (hS : Sl w F 1 intc (.slice a n c) l) (hl : l.length ≤ 1073741824) :
    Calls Tryz.prog 30 #[.slice a n c] w fun e w' => ∃ v', e = .returned v' ∧ Sl w' (fun k => w.heap.size ≤ k) 1 intc v' l ∧ Below w.heap.size w w' := by
  by_cases h : l = []
  · subst h
    have hn := hS.len_
    rw [show n = 0 from hn]
    cases a with
    | none => exact (clone_nil w 0 c).mono fun e w' ⟨h1, h2⟩ => ⟨_, h1, Sl.nil_ _ _ _ _, h2 ▸ Below.refl _ _⟩
    | some q => exact cloneE_any w q c
  · obtain ⟨b, o, rfl, _⟩ := hS.cell_ (List.length_pos_iff.2 h)
    exact (clone_some w b o n c l F hS hl).mono fun e w' ⟨v', h1, h2, _, h3⟩ => ⟨v', h1, Own.since (w := w) h2 (Nat.le_refl _), h3⟩
set_option maxRecDepth 20000 in
set_option maxHeartbeats 8000000 in
theorem open_new {X F : Nat → Prop} {w : World} {p : Nat} {room : Int} (h : Qd X w p (mvD room [])) (fv : Value) (first : List Int) (hf : Sl w F 1 intc fv first) (hl : first.length ≤ 20) (fail now : Int) (hn : 0 ≤ now) (hroom : 128 ≤ room) :
    Calls Tryz.prog 8 #[.pointer (some ⟨p, 0, none⟩), fv, .int .i64 fail, .int .i64 now] w fun e w' => OpenR X w w' p room fail now first e := by
  obtain ⟨fA, fc, rfl, hfa, hfb⟩ := hf.shape_ (n := first.length) rfl
  obtain ⟨n, hnn⟩ : ∃ n, first.length = n := ⟨_, rfl⟩
  rw [hnn] at hl ⊢
  have HNN := Lib.hid hnn
  have d3 : decide (now < 0) = false := decide_eq_false (by omega)
  by_cases hf1 : fail < 4
  · have d1 : decide (fail < 4) = true := decide_eq_true hf1
    go_enter Tryz.func8, Tryz.ntmps8
    go_wp2_with fail
    exact bodyPost_ret (v := .tuple #[.pointer none, .int .i64 1]) (by simp [results, Tryz.results8, go_sem]) rfl ⟨fun h => by omega, fun _ => ⟨rfl, Below.refl _ _⟩⟩
  by_cases hf2 : 1073741824 < fail
  · have d1 : decide (fail < 4) = false := decide_eq_false hf1
    have d2 : decide (1073741824 < fail) = true := decide_eq_true hf2
    go_enter Tryz.func8, Tryz.ntmps8
    go_wp2_with fail
    exact bodyPost_ret (v := .tuple #[.pointer none, .int .i64 1]) (by simp [results, Tryz.results8, go_sem]) rfl ⟨fun h => by omega, fun _ => ⟨rfl, Below.refl _ _⟩⟩
  have d1 : decide (fail < 4) = false := decide_eq_false hf1
  have d2 : decide (1073741824 < fail) = false := decide_eq_false hf2
  have hFA : Hid (4 ≤ fail ∧ fail ≤ 1073741824) := Lib.hid ⟨by omega, by omega⟩
  have HK := Lib.hid (kept_any h [] trivial (by simp) ((mvD_read room []).imp fun _ h => h.1))
  have HQ := Lib.hid h
  have HF := Lib.hid hf
  clear h hf hf1 hf2 hnn
  go_enter Tryz.func8, Tryz.ntmps8
  go_wp2_with fail
  refine HK.out.mono ?_
  rintro e w1 ⟨a, b, c, rfl, hV, hB1⟩
  obtain ⟨A, ca, B, cb, C, cc, rfl, rfl, rfl, _⟩ := hV.shape
  rw [show (lastV noV []).L.length = 0 from rfl, show (lastV noV []).ep = 0 from rfl, show ((([] : List Vw).length : Nat) : Int) = 0 from rfl]
  have HB1 := Lib.hid hB1
  clear hV hB1
  go_upto_region 4 with (fail)
  obtain ⟨q, hq⟩ : ∃ q, w1.heap.size = q := ⟨_, rfl⟩
  have hB2 := HB1.out.alloc HB1.out.size (.cells #[.int .i64 0, .slice A 0 ca, .slice B 0 cb, .slice C 0 cc] 45)
  have hk2 := heap_alloc_new w1 (.cells #[.int .i64 0, .slice A 0 ca, .slice B 0 cb, .slice C 0 cc] 45)
  rw [hq] at hk2 ⊢
  generalize w1.alloc (.cells #[.int .i64 0, .slice A 0 ca, .slice B 0 cb, .slice C 0 cc] 45) = w2 at hB2 hk2 ⊢
  have hRD := readQ (HQ.out.fresh hB2) sViews (by decide)
  rw [show readV ((mvD room []).find sViews) = .tuple #[.string ⟨#[]⟩, .int .i64 6] from rfl] at hRD
  have HRD := Lib.hid hRD
  have HQQ := Lib.hid (show w.heap.size ≤ q by rw [← hq]; exact HB1.out.size)
  have HB2 := Lib.hid hB2
  have HK2 := Lib.hid hk2
  have hCL := cloneS_any w2 fA n fc first F (by rw [← HNN.out]; exact HF.out.fresh hB2) (by rw [HNN.out]; omega)
  have HCL := Lib.hid hCL
  clear hB2 hk2 hRD hq hCL
  go_wp2_with fail
  refine HRD.out.mono ?_
  rintro e w3 ⟨rfl, rfl⟩
  go_wp2_with fail
  refine HCL.out.mono ?_
  rintro e w3 ⟨cv, rfl, hCV, hB3⟩
  obtain ⟨vA, vc, rfl, _, _⟩ := hCV.shape_ (n := n) HNN.out
  have HCV := Lib.hid hCV
  have HB3 := Lib.hid (HB2.out.trans (hB3.mono HB2.out.size))
  have HK3 := Lib.hid ((hB3.block q (Array.getElem?_eq_some_iff.1 HK2.out).1).trans HK2.out)
  clear hCV hB3
  have z0 := cell_of_row w3 q 0 _ _ _ HK3.out
  have z1 := cell_of_row w3 q 1 _ _ _ HK3.out
  have z2 := cell_of_row w3 q 2 _ _ _ HK3.out
  have z3 := cell_of_row w3 q 3 _ _ _ HK3.out
  have g0 := frozen_block HK3.out 0
  have g1 := frozen_block HK3.out 1
  have g2 := frozen_block HK3.out 2
  have g3 := frozen_block HK3.out 3
  go_upto_region 9 with (fail)
  clear z0 z1 z2 z3 g0 g1 g2 g3
  have hb4 := four_block HK3.out (.int .i64 1) (.slice vA n vc) (.slice none 0 0) (.slice none 0 0)
  have hk4 := four_keeps w3 q (.int .i64 1) (.slice vA n vc) (.slice none 0 0) (.slice none 0 0)
  have hq3 : q < w3.heap.size := (Array.getElem?_eq_some_iff.1 HK3.out).1
  have hq2 : q < w2.heap.size := (Array.getElem?_eq_some_iff.1 HK2.out).1
  have hB4 := Below.keep HB3.out hk4 HB3.out.size (fun k e => by have e2 : k = q := e; have := HQQ.out; omega)
  have hV4 := (HCV.out.keep hk4 (fun k _ hk e => by have e2 : k = q := e; have hk2 : w2.heap.size ≤ k := hk; omega)).bound
  generalize ((((w3.setCell ⟨q, 0, none⟩ (.int .i64 1)).setCell ⟨q, 1, none⟩ (.slice vA n vc)).setCell ⟨q, 2, none⟩ (.slice none 0 0)).setCell ⟨q, 3, none⟩ (.slice none 0 0)) = w4 at hb4 hk4 hB4 hV4 ⊢
  have HB4 := Lib.hid hB4
  have HK4 := Lib.hid hb4
  have HV4 := Lib.hid hV4
  have hq4 : q < w4.heap.size := (Array.getElem?_eq_some_iff.1 hb4).1
  have HQ4 := Lib.hid (And.intro HQQ.out (And.intro hq2 hq4))
  have hR0 : Hid (OpR w4 q (.slice vA n vc) 0 w4) := Lib.hid ⟨.slice none 0 0, .slice none 0 0, hb4, Go.Bl.Own.nil_ _ _ _ _ _, Go.Bl.Own.nil_ _ _ _ _ _, (fun x h => by cases h), Keeps.refl _ _⟩
  clear hb4 hk4 hB4 hV4 hq3 hq2 hq4
  go_wp2_with fail
  go_loopw [49] (fun i wr => ∃ k : Nat, k ≤ n ∧ i = .int .i64 k ∧ OpR w4 q (.slice vA n vc) k wr) (fun i _ => n - (intOf i).toNat)
  case atStart => exact ⟨0, Nat.zero_le _, rfl, hR0.out⟩
  case round =>
    obtain ⟨k, hk, rfl, b, c, hQ, hb, hc, hd, hK⟩ := hrel
    obtain ⟨B1, c1, rfl, a1, _⟩ := hb.shape_ (n := k) (List.length_replicate)
    obtain ⟨B2, c2, rfl, a2, _⟩ := hc.shape_ (n := k) (List.length_replicate)
    by_cases hlt : k < n
    · have d0 : decide ((k : Int) < (n : Int)) = true := decide_eq_true (by omega)
      have hq2 : q < w4.heap.size := HQ4.out.2.2
      have q1 : wr.cell? ⟨q, 2, none⟩ = some (.slice B1 k c1) := cell_of_row wr q 2 _ _ _ hQ
      have q2 : wr.cell? ⟨q, 3, none⟩ = some (.slice B2 k c2) := cell_of_row wr q 3 _ _ _ hQ
      have HA := Lib.hid hb
      have HB := Lib.hid hc
      have HD := Lib.hid hd
      have HKK := Lib.hid hK
      have HQQ2 := Lib.hid hQ
      clear hb hc hd hK hQ
      go_upto_region 11 with (fail)
      have held : ∀ β X u, J2 w4 q (.slice vA n vc) (.slice B1 k c1) (.slice B2 k c2) (List.replicate k 1) (List.replicate k 0) 1 0 β X u → β 9 = false → (u.cell? ⟨q, 2, none⟩ = some (.slice B1 k c1) ∧ u.cell? ⟨q, 3, none⟩ = some (.slice B2 k c2)) := fun β X u hJ h9 => by
        obtain ⟨_, hc⟩ := hJ.early h9
        exact ⟨cell_of_row u q 2 _ _ _ hc, cell_of_row u q 3 _ _ _ hc⟩
      refine wp_region_noPanic ?_
      refine region_kept 9 [0, 1, 4, 5] [2, 3, 6, 7, 8, 9, 10, 11] [53, 54, 57, 58, 59, 60]
        (fun z => z.cell? ⟨q, 2, none⟩ = some (.slice B1 k c1) ∧ z.cell? ⟨q, 3, none⟩ = some (.slice B2 k c2))
        (J2 w4 q (.slice vA n vc) (.slice B1 k c1) (.slice B2 k c2) (List.replicate k 1) (List.replicate k 0) 1 0) (by kernel_rfl) (by kernel_rfl) (by kernel_rfl) (by decide) (by kernel_rfl) (fun _ _ _ _ h => h) ⟨q1, q2⟩
        ⟨.pointer (some ⟨q, 2, none⟩), .inl ⟨rfl, fun z hz => by (obtain ⟨z1, z2⟩ := hz; simp only [List.getElem?_toArray, List.getElem?_cons_zero, Option.getD_some]; go_simp)⟩,
          .slice B1 k c1, .inl ⟨rfl, fun z hz => by (obtain ⟨z1, z2⟩ := hz; simp only [List.getElem?_toArray, List.getElem?_cons_succ, List.getElem?_cons_zero, Option.getD_some]; go_simp)⟩,
          .pointer (some ⟨q, 3, none⟩), .inl ⟨rfl, fun z hz => by (obtain ⟨z1, z2⟩ := hz; simp only [List.getElem?_toArray, List.getElem?_cons_succ, List.getElem?_cons_zero, Option.getD_some]; go_simp)⟩,
          .slice B2 k c2, .inl ⟨rfl, fun z hz => by (obtain ⟨z1, z2⟩ := hz; simp only [List.getElem?_toArray, List.getElem?_cons_succ, List.getElem?_cons_zero, Option.getD_some]; go_simp)⟩,
          rfl⟩ ?_ ?_ ?_
      · intro β X hβ
        have b := fun i (hi : i ∈ [2, 3, 6, 7, 8, 9, 10, 11]) => hβ i hi
        refine ⟨?_, HKK.out.drew, ?_, ?_, ?_, ?_, ?_, ?_, ?_⟩
        · rw [b 2 (by decide), b 3 (by decide), b 6 (by decide), b 7 (by decide)]
          exact ⟨.start HA.out, .start HB.out, .start (Go.Bl.Own.nil_ _ _ _ _ _), .start fun k h => HD.out k h, .start (fun k _ e => by cases e), .start (fun k _ e => by cases e)⟩
        · rw [b 9 (by decide), b 11 (by decide)]
          exact HQQ2.out
        · rw [b 9 (by decide)]; intro h; cases h
        · rw [b 11 (by decide)]; intro h; cases h
        · rw [b 8 (by decide)]; intro h; cases h
        · rw [b 10 (by decide)]; intro h; cases h
        · rw [b 3 (by decide)]; intro h; cases h
        · rw [b 7 (by decide)]; intro h; cases h
      · intro i hi β X u hJ hb hdep b ho hx K hK
        simp only [List.mem_cons, List.not_mem_nil, or_false] at hi
        rcases hi with rfl | rfl | rfl | rfl | rfl | rfl | rfl | rfl
        · have h9 : β 9 = false := ff hb fun e => (hJ.i9 e).1
          have ha : β 3 = false := ff hb hJ.w3
          exact wpOp_onex (.const (.int .i64 1)) 1 rfl rfl rfl rfl (hK _ _ (fun _ => held _ _ _ (hJ.build1 ha h9) h9) (hJ.build1 ha h9))
        · have h9 : β 9 = false := ff hb fun e => (hJ.i9 e).2.1
          have hf : β 2 = true := edge_came rfl hdep 2 (by kernel_rfl)
          have e1 : b.eval (.tmp 52) = .slice B1 k c1 := by rw [ho 52 (by decide)]; go_simp
          have e2 : b.eval (.tmp 53) = X 53 := hx 53 (by decide) (by simp [Act.put])
          refine wpOp_of rfl (elInt.step u rfl (.tmp 52) (.tmp 53) rfl w4.heap.size _ _ e1 (hJ.rows.r1.own0 rfl hb) _ _ [1] e2 (hJ.rows.r1.sl hf hb) (by rw [List.length_replicate, List.length_singleton]; omega) hJ.k.size fun v' u' h1 h2 h3 => ?_)
          exact hK _ _ (fun _ => held _ _ _ (hJ.got1 hb hf h9 hq2 h1 h2 h3) h9) (hJ.got1 hb hf h9 hq2 h1 h2 h3)
        · have h9 : β 9 = false := ff hb fun e => (hJ.i9 e).2.2.1
          have ha : β 7 = false := ff hb (fun e => (hJ.w7 e).1)
          exact wpOp_onex (.const (.int .i64 0)) 0 rfl rfl rfl rfl (hK _ _ (fun _ => held _ _ _ (hJ.build2 ha h9) h9) (hJ.build2 ha h9))
        · have h9 : β 9 = false := ff hb fun e => (hJ.i9 e).2.2.2.1
          have hf : β 6 = true := edge_came rfl hdep 6 (by kernel_rfl)
          have hp : β 3 = true := edge_came rfl hdep 3 (by kernel_rfl)
          have e1 : b.eval (.tmp 56) = .slice B2 k c2 := by rw [ho 56 (by decide)]; go_simp
          have e2 : b.eval (.tmp 57) = X 57 := hx 57 (by decide) (by simp [Act.put])
          refine wpOp_of rfl (elInt.step u rfl (.tmp 56) (.tmp 57) rfl w4.heap.size _ _ e1 (hJ.rows.r2.own0 rfl hb) _ _ [0] e2 (hJ.rows.r2.sl hf hb) (by rw [List.length_replicate, List.length_singleton]; omega) hJ.k.size fun v' u' h1 h2 h3 => ?_)
          exact hK _ _ (fun _ => held _ _ _ (hJ.got2 hb hf hp h9 hq2 h1 h2 h3) h9) (hJ.got2 hb hf hp h9 hq2 h1 h2 h3)
        · have h9 : β 9 = false := ff hb fun e => (hJ.i9 e).2.2.2.2
          have e1 : b.eval (.tmp 10) = .pointer (some ⟨q, 0, none⟩) := by rw [ho 10 (by decide)]; go_simp
          have hK1 := hK (.pointer (some ⟨q, 2, none⟩)) u (fun _ => held _ _ _ (hJ.ptr1 h9) h9) (hJ.ptr1 h9)
          refine wpOp_of rfl ?_
          have e1' : (b.tmps[10]?).getD undef = .pointer (some ⟨q, 0, none⟩) := by rw [← Array.getD_eq_getD_getElem?]; exact e1
          clear ho hx hJ hK hdep e1
          go_simp
          exact hK1
        · have h7 : β 7 = true := edge_came rfl hdep 7 (by kernel_rfl)
          have h3 := (hJ.w7 h7).2
          have hall : β 2 = true ∧ β 3 = true ∧ β 6 = true ∧ β 7 = true ∧ β 8 = true := ⟨hJ.w3 h3, h3, (hJ.w7 h7).1, h7, edge_came rfl hdep 8 (by kernel_rfl)⟩
          have e1 : b.eval (.tmp 59) = .pointer (some ⟨q, 2, none⟩) := (hx 59 (by decide) (by simp [Act.put])).trans (hJ.p8 (edge_came rfl hdep 8 (by kernel_rfl)))
          obtain ⟨Z, zc, hz, _, _⟩ := (hJ.rows.r1.own1 rfl h3).shape_ (n := k + 1) (by rw [List.length_append, List.length_replicate, List.length_singleton])
          have hz : X 54 = .slice Z (k + 1) zc := hz
          have e2 : b.eval (.tmp 54) = .slice Z (k + 1) zc := (hx 54 (by decide) (by simp [Act.put])).trans hz
          have hc := hJ.c
          have z1 := cell_of_row u q 2 _ _ _ hc
          have z2 := frozen_block hc 2
          have hK1 := hK undef (u.setCell ⟨q, 2, none⟩ (X 54)) (fun h => absurd h (by omega)) (hJ.put1 hb hq2 hall)
          rw [hz] at hK1
          refine wpOp_of rfl ?_
          have e1' : (b.tmps[59]?).getD undef = .pointer (some ⟨q, 2, none⟩) := by rw [← Array.getD_eq_getD_getElem?]; exact e1
          have e2' : (b.tmps[54]?).getD undef = .slice Z (k + 1) zc := by rw [← Array.getD_eq_getD_getElem?]; exact e2
          clear ho hx hJ hK hdep hz hc e1 e2
          go_simp
          exact hK1
        ·
          have e1 : b.eval (.tmp 10) = .pointer (some ⟨q, 0, none⟩) := by rw [ho 10 (by decide)]; go_simp
          have hK1 := hK (.pointer (some ⟨q, 3, none⟩)) u (fun h => absurd h (by omega)) (hJ.ptr2)
          refine wpOp_of rfl ?_
          have e1' : (b.tmps[10]?).getD undef = .pointer (some ⟨q, 0, none⟩) := by rw [← Array.getD_eq_getD_getElem?]; exact e1
          clear ho hx hJ hK hdep e1
          go_simp
          exact hK1
        · have h9 : β 9 = true := edge_came rfl hdep 9 (by kernel_rfl)
          have h7 : β 7 = true := edge_came rfl hdep 7 (by kernel_rfl)
          have e1 : b.eval (.tmp 60) = .pointer (some ⟨q, 3, none⟩) := (hx 60 (by decide) (by simp [Act.put])).trans (hJ.p10 (edge_came rfl hdep 10 (by kernel_rfl)))
          obtain ⟨Z, zc, hz, _, _⟩ := (hJ.rows.r2.own1 rfl h7).shape_ (n := k + 1) (by rw [List.length_append, List.length_replicate, List.length_singleton])
          have hz : X 58 = .slice Z (k + 1) zc := hz
          have e2 : b.eval (.tmp 58) = .slice Z (k + 1) zc := (hx 58 (by decide) (by simp [Act.put])).trans hz
          have hc := hJ.c
          have z1 := cell_of_row u q 3 _ _ _ hc
          have z2 := frozen_block hc 3
          have hK1 := hK undef (u.setCell ⟨q, 3, none⟩ (X 58)) (fun h => absurd h (by omega)) (hJ.put2 hb hq2 h9)
          rw [hz] at hK1
          refine wpOp_of rfl ?_
          have e1' : (b.tmps[60]?).getD undef = .pointer (some ⟨q, 3, none⟩) := by rw [← Array.getD_eq_getD_getElem?]; exact e1
          have e2' : (b.tmps[58]?).getD undef = .slice Z (k + 1) zc := by rw [← Array.getD_eq_getD_getElem?]; exact e2
          clear ho hx hJ hK hdep hz hc e1 e2
          go_simp
          exact hK1
      · intro β X u hJ hall
        have hr1 := hJ.rows.r1.own1 rfl (hall 3 (by decide))
        have hr2 := hJ.rows.r2.own1 rfl (hall 7 (by decide))
        have hT : OpR w4 q (.slice vA n vc) (k + 1) u := by
          have hc := hJ.c
          rw [hall 9 (by decide), hall 11 (by decide)] at hc
          refine ⟨X 54, X 58, hc, ?_, ?_, ?_, hJ.k⟩
          · rw [List.replicate_succ']; exact hr1
          · rw [List.replicate_succ']; exact hr2
          · intro x hx e
            refine hJ.rows.d12 x (.inl ⟨rfl, ?_⟩) (.inl ⟨rfl, ?_⟩)
            · unfold RowD.val; rw [hall 3 (by decide)]; exact hx
            · unfold RowD.val; rw [hall 7 (by decide)]; exact e
        have HT := Lib.hid hT
        clear hr1 hr2 hT hJ hall held q1 q2
        refine NoPanic.normal ?_
        generalize X 53 = x53
        generalize X 54 = x54
        generalize X 57 = x57
        generalize X 58 = x58
        generalize X 59 = x59
        generalize X 60 = x60
        simp only [putsL, List.getElem?_toArray, List.getElem?_cons_succ, List.getElem?_cons_zero, Option.getD_some, Act.put, List.setIfInBounds_toArray, List.set_cons_succ, List.set_cons_zero]
        go_wp2_with fail
        go_roundw
        case rel => exact ⟨k + 1, hlt, by go_num, HT.out⟩
        case measure => simp [intOf]; omega
    · have hkn : k = n := by omega
      subst hkn
      have d0 : decide ((k : Int) < (k : Int)) = false := by simp
      have hqb := HQ4.out
      have hVr : VwSl wr (fun b => w.heap.size ≤ b ∧ b < wr.heap.size) (v0 first).L (.slice vA k vc) (.slice B1 k c1) (.slice B2 k c2) := by
        have hw := HB4.out.size
        have hkk := hK.size
        refine ⟨?_, ?_, ?_⟩
        · rw [v0_node]
          exact (HV4.out.keep hK (fun b _ h1 e => by have e2 : b = q := e; have := h1.1; omega)).mono fun b hb2 h1 => ⟨by have := HB2.out.size; have := h1.1; show w.heap.size ≤ b; omega, hb2⟩
        · rw [v0_since, HNN.out]
          exact (hb.sl (fun _ => rfl)).mono fun b hb2 e => ⟨by have := (hb.lt b e).1; show w.heap.size ≤ b; omega, hb2⟩
        · rw [v0_boot, HNN.out]
          exact (hc.sl (fun _ => rfl)).mono fun b hb2 e => ⟨by have := (hc.lt b e).1; show w.heap.size ≤ b; omega, hb2⟩
      have hBr := Below.keep HB4.out hK HB4.out.size (fun b e => by have e2 : b = q := e; have := HQQ.out; omega)
      have hrc := right_any wr _ 1 (v0 first).L _ _ _ hVr
      rw [show (⟨1, (v0 first).L⟩ : Vw) = v0 first from rfl] at hrc
      have HBr := Lib.hid hBr
      have HRC := Lib.hid hrc
      have HVr := Lib.hid hVr
      have HQr := Lib.hid hQ
      have q0 : wr.cell? ⟨q, 0, none⟩ = some (.int .i64 1) := cell_of_row wr q 0 _ _ _ hQ
      have q1 : wr.cell? ⟨q, 1, none⟩ = some (.slice vA k vc) := cell_of_row wr q 1 _ _ _ hQ
      have q2 : wr.cell? ⟨q, 2, none⟩ = some (.slice B1 k c1) := cell_of_row wr q 2 _ _ _ hQ
      have q3 : wr.cell? ⟨q, 3, none⟩ = some (.slice B2 k c2) := cell_of_row wr q 3 _ _ _ hQ
      clear hb hc hd hK hQ hqb hVr hBr hrc
      by_cases hR : RightV (v0 first)
      · have hrv := rightV_iff.2 hR
        rw [hrv] at HRC
        have HR := Lib.hid hR
        clear hR hrv
        go_wp2_with fail
        refine HRC.out.mono ?_
        rintro e w6 ⟨rfl, hB6⟩
        have hQ6 := (hB6.block q (Array.getElem?_eq_some_iff.1 HQr.out).1).trans HQr.out
        have HQ6 := Lib.hid hQ6
        have HB6 := Lib.hid (HBr.out.trans (hB6.mono HBr.out.size))
        have HV6 := Lib.hid (HVr.out.fresh hB6)
        have hs6 : w6.heap.size ≥ wr.heap.size := hB6.size
        have q0 : w6.cell? ⟨q, 0, none⟩ = some (.int .i64 1) := cell_of_row w6 q 0 _ _ _ hQ6
        have q1 : w6.cell? ⟨q, 1, none⟩ = some (.slice vA k vc) := cell_of_row w6 q 1 _ _ _ hQ6
        have q2 : w6.cell? ⟨q, 2, none⟩ = some (.slice B1 k c1) := cell_of_row w6 q 2 _ _ _ hQ6
        have q3 : w6.cell? ⟨q, 3, none⟩ = some (.slice B2 k c2) := cell_of_row w6 q 3 _ _ _ hQ6
        have HY6 : Hid (Qd (fun b => X b ∨ (w.heap.size ≤ b ∧ b < w6.heap.size)) w6 p (mvD room [])) := Lib.hid (HQ.out.more HB6.out (fun b hb => hb.imp id And.left) (fun b hb => hb.elim (fun h => Nat.lt_of_lt_of_le (HQ.out.hX b h) HB6.out.size) And.right) (fun b hb => .inl (HQ.out.low b hb)))
        have hkp := keepQ HY6.out (v0 first) _ _ _ HV6.out HR.out trivial (by simp) (by simp; omega)
        rw [show keepV [] (v0 first) = [v0 first] from rfl, show (v0 first).ep = 1 from rfl] at hkp
        have HKP := Lib.hid hkp
        clear hQ6 hB6 hkp
        go_wp2_with fail
        refine HKP.out.mono ?_
        rintro e w7 ⟨rfl, hQ7, hK7⟩
        have hq6 : q < w6.heap.size := (Array.getElem?_eq_some_iff.1 HQ6.out).1
        have hQQ7 := (hK7.block q hq6 (fun h => h (.inr ⟨HQQ.out, hq6⟩))).trans HQ6.out
        have HQ7 := Lib.hid hQ7
        have HK7 := Lib.hid hK7
        have q0 : w7.cell? ⟨q, 0, none⟩ = some (.int .i64 1) := cell_of_row w7 q 0 _ _ _ hQQ7
        have q1 : w7.cell? ⟨q, 1, none⟩ = some (.slice vA k vc) := cell_of_row w7 q 1 _ _ _ hQQ7
        have q2 : w7.cell? ⟨q, 2, none⟩ = some (.slice B1 k c1) := cell_of_row w7 q 2 _ _ _ hQQ7
        have q3 : w7.cell? ⟨q, 3, none⟩ = some (.slice B2 k c2) := cell_of_row w7 q 3 _ _ _ hQQ7
        have HQ77 := Lib.hid hQQ7
        have hmm := @run_makeMap Tryz.prog
        clear hQ7 hK7 hQQ7
        go_upto_region 19 with (fail)
        clear hmm
        obtain ⟨bh, hbh⟩ : ∃ bh, w7.heap.size = bh := ⟨_, rfl⟩
        obtain ⟨W, hW⟩ : ∃ W, ((w7.alloc (.map #[] 0)).alloc (.map #[] 0)).alloc (.cells #[.pointer (some ⟨p, 0, none⟩), .int .i64 1, .slice vA k vc, .slice B1 k c1, .slice B2 k c2, .int .i64 fail, .map (some w7.heap.size), .map (some (w7.heap.size + 1))] 89) = W := ⟨_, rfl⟩
        rw [hW, hbh]
        have hBW : Below w7.heap.size w7 W := hW ▸ ((((Below.refl _ w7).alloc (Nat.le_refl _) _).alloc (by simp) _).alloc (by rw [World.size_alloc, World.size_alloc]; omega) _)
        have hsW : W.heap.size = bh + 3 := by rw [← hW, World.size_alloc, World.size_alloc, World.size_alloc, hbh]
        have hWm : W.heap[bh + 2]? = some (.cells #[.pointer (some ⟨p, 0, none⟩), .int .i64 1, .slice vA k vc, .slice B1 k c1, .slice B2 k c2, .int .i64 fail, .map (some bh), .map (some (bh + 1))] 89 (0, 0)) := by
          have := heap_alloc_new ((w7.alloc (.map #[] 0)).alloc (.map #[] 0)) (.cells #[.pointer (some ⟨p, 0, none⟩), .int .i64 1, .slice vA k vc, .slice B1 k c1, .slice B2 k c2, .int .i64 fail, .map (some w7.heap.size), .map (some (w7.heap.size + 1))] 89)
          rw [hW, World.size_alloc, World.size_alloc, hbh] at this
          exact this
        have hM1 : MapI W bh (fun _ => none) 0 := by
          refine ⟨0, Nat.le_refl _, ?_⟩
          have := (MapV.made w7 Tryz.prog 3 intLit).keep (G := fun _ => False) (((Keeps.refl _ _).alloc (.map #[] 0)).alloc (.cells #[.pointer (some ⟨p, 0, none⟩), .int .i64 1, .slice vA k vc, .slice B1 k c1, .slice B2 k c2, .int .i64 fail, .map (some w7.heap.size), .map (some (w7.heap.size + 1))] 89)) id
          rw [hW, hbh] at this
          exact this
        have hM2 : MapI W (bh + 1) (fun _ => none) 0 := by
          refine ⟨0, Nat.le_refl _, ?_⟩
          have := (MapV.made (w7.alloc (.map #[] 0)) Tryz.prog 3 intLit).keep (G := fun _ => False) ((Keeps.refl _ _).alloc (.cells #[.pointer (some ⟨p, 0, none⟩), .int .i64 1, .slice vA k vc, .slice B1 k c1, .slice B2 k c2, .int .i64 fail, .map (some w7.heap.size), .map (some (w7.heap.size + 1))] 89)) id
          rw [hW, World.size_alloc, hbh] at this
          exact this
        have hs7 : w6.heap.size ≤ bh := hbh ▸ HK7.out.size
        have hs60 : w.heap.size ≤ w6.heap.size := HB6.out.size
        have hXl : ∀ b, X b → b < w.heap.size := fun b hb => HQ.out.hX b hb
        have hMR : MstR X W (bh + 2) p room fail [v0 first] (v0 first) 0 (fun b => (X b ∨ (w.heap.size ≤ b ∧ b < w6.heap.size)) ∨ (bh ≤ b ∧ b < W.heap.size)) (fun b => w.heap.size ≤ b ∧ b < wr.heap.size) bh (bh + 1) (.slice vA k vc) (.slice B1 k c1) (.slice B2 k c2) (ghF first now 0) (fun _ => none) :=
          { disk := HQ7.out.more hBW (fun b hb => hb.imp id fun h => hbh ▸ h.1) (fun b hb => hb.elim (fun h => Nat.lt_of_lt_of_le (HQ7.out.hX b h) hBW.size) And.right) (fun b hb => .inl (.inl (HQ.out.low b hb)))
            lx := HQ.out.low
            xy := fun b hb => .inl (.inl hb)
            ym := ⟨.inr (by omega), .inr (by omega), .inr (by omega)⟩
            yf := fun b hb => .inl (.inr ⟨hb.1, Nat.lt_of_lt_of_le hb.2 hs6⟩)
            xm := ⟨fun h => by have := hXl _ h; omega, fun h => by have := hXl _ h; omega, fun h => by have := hXl _ h; omega⟩
            fm := ⟨fun h => by omega, fun h => by omega, fun h => by omega⟩
            hne := by omega
            blk := hWm
            sl := ((HV6.out.keep HK7.out (fun b _ h1 h2 => h2 (.inr ⟨h1.1, Nat.lt_of_lt_of_le h1.2 hs6⟩))).fresh hBW)
            heard := hM1.congr fun x => by simp [ghF]
            ready := hM2
            ups := ⟨by show (0 : Int) < 1; omega, HR.out, trivial⟩
            ne := by simp
            lenv := by simp
            last := rfl
            xf := fun b hb hf => by have := hXl b hb; have := hf.1; omega
            right := HR.out }
        have HKX : Hid (Kx X w W) := Lib.hid (((Kx.of_below HB6.out).trans (HK7.out.mono fun b _ h1 h2 => h1 (.inl h2))).trans (Kx.of_below hBW))
        have HXb : Hid (¬ X bh) := Lib.hid fun h => by have := hXl _ h; omega
        have HMR := Lib.hid hMR
        have q1 : W.cell? ⟨q, 1, none⟩ = some (.slice vA k vc) := (hBW.cell (p := ⟨q, 1, none⟩) (World.block_lt_of_cell? _ _ q1)).trans q1
        clear hW hbh hBW hsW hWm hM1 hM2 hs7 hs60 hXl hMR q0 q2 q3
        go_wp2_with fail
        go_loopw [81] (fun i wx => ∃ j : Nat, j ≤ k ∧ i = .int .i64 j ∧ MstR X wx (bh + 2) p room fail [v0 first] (v0 first) j (fun b => (X b ∨ (w.heap.size ≤ b ∧ b < w6.heap.size)) ∨ (bh ≤ b ∧ b < W.heap.size)) (fun b => w.heap.size ≤ b ∧ b < wr.heap.size) bh (bh + 1) (.slice vA k vc) (.slice B1 k c1) (.slice B2 k c2) (ghF first now j) (fun _ => none) ∧ Keeps (fun b => b = bh) W wx) (fun i _ => k - (intOf i).toNat)
        case atStart => exact ⟨0, Nat.zero_le _, rfl, HMR.out, Keeps.refl _ _⟩
        case round =>
          obtain ⟨j, hj, rfl, hM, hKj⟩ := hrel
          have HM := Lib.hid hM
          have HKJ := Lib.hid hKj
          clear hM hKj
          by_cases hlt2 : j < k
          · have d5 : decide ((j : Int) < (k : Int)) = true := decide_eq_true (by omega)
            have hjf : j < first.length := by rw [HNN.out]; exact hlt2
            have hch := HM.out.sl.ch
            rw [v0_node] at hch
            obtain ⟨b, o, rfl, _, _, hxx⟩ := hch.cell_ hjf
            have x0 := hxx 0 _ rfl
            rw [Nat.mul_one, Nat.add_zero] at x0
            obtain ⟨x, hx⟩ : ∃ x, first[j] = x := ⟨_, rfl⟩
            rw [hx] at x0
            have hxb : 1 ≤ x ∧ x ≤ 100 := by
              have hb := HR.out.bd ⟨x, 1, 0⟩ (List.mem_map.2 ⟨x, hx ▸ List.getElem_mem hjf, rfl⟩)
              exact ⟨hb.1, hb.2.1⟩
            have HXE := Lib.hid (show ∀ y, (if y = x then some (Value.int .i64 now) else ghF first now j y) = ghF first now (j + 1) y from fun y => by
              unfold ghF
              have ht := List.take_succ_eq_append_getElem hjf
              rw [hx] at ht
              rw [ht]
              by_cases e : y = x
              · rw [if_pos e, if_pos (by simp [e])]
              · rw [if_neg e]
                by_cases e2 : y ∈ first.take j
                · rw [if_pos e2, if_pos (by simp [e2])]
                · rw [if_neg e2, if_neg (by simp [e2, e])])
            obtain ⟨-, -, -, -, -, -, y6, -⟩ := HM.out.cells
            obtain ⟨wy, hry, hMy, hky, hsy⟩ := HM.out.put_heard (by omega) (x := x) (by unfold i64; omega) (.int .i64 now)
            have HMy := Lib.hid hMy
            have HKy := Lib.hid (HKJ.out.trans hky)
            have hjl : j < k := hlt2
            clear hch hxx hx hMy hky hsy
            go_wp2_with fail
            go_roundw
            case rel => exact ⟨j + 1, hlt2, by go_num, { HMy.out with heard := HMy.out.heard.congr HXE.out }, HKy.out⟩
            case measure => simp [intOf]; omega
          · have hjk : j = k := by omega
            subst hjk
            have d5 : decide ((j : Int) < (j : Int)) = false := by simp
            go_wp2_with fail
            have hn6 := HR.out.n2
            rw [show (v0 first).L.length = j from (List.length_map _).trans HNN.out] at hn6
            refine bodyPost_ret (v := .tuple #[.pointer (some ⟨bh + 2, 0, none⟩), .int .i64 0]) (by simp [results, Tryz.results8, go_sem]) rfl ⟨fun _ => ⟨bh + 2, rfl, ⟨_, _, _, _, _, _, _, MstIn.more (HM.out.mst (s := ⟨v0 first, fun _ => now, fun _ => 0⟩) (fun x => ?_) (fun x => ?_) (fun _ => Int.le_refl _)) hn6⟩, HKX.out.trans (HKJ.out.mono fun b _ e h => HXb.out (by have e2 : b = bh := e; exact e2 ▸ h))⟩, fun h => absurd ⟨hFA.out.1, hFA.out.2, HR.out⟩ h⟩
            · show ghF first now j x = if x ∈ (v0 first).L.map Nd.node then some (Value.int .i64 now) else none
              rw [v0_node]
              unfold ghF
              rw [List.take_of_length_le (by rw [HNN.out]; exact Nat.le_refl _)]
            · unfold rdF
              rw [if_pos rfl]
      · have hrv : rightV (v0 first) = false := by
          cases e : rightV (v0 first)
          · rfl
          · exact absurd (rightV_iff.1 e) hR
        rw [hrv] at HRC
        have HR := Lib.hid hR
        clear hR hrv
        go_wp2_with fail
        refine HRC.out.mono ?_
        rintro e w6 ⟨rfl, hB6⟩
        have HB6 := Lib.hid (HBr.out.trans (hB6.mono HBr.out.size))
        clear hB6
        go_wp2_with fail
        exact bodyPost_ret (v := .tuple #[.pointer none, .int .i64 1]) (by simp [results, Tryz.results8, go_sem]) rfl ⟨fun h => absurd h.2.2 HR.out, fun _ => ⟨rfl, HB6.out⟩⟩
end Go.Proofs.YtoegdpcfhmjnaaaGreatDoor
