/- Views as bytes: Put. Under the stated premises on sizes. -/
import Derived.Test.YtoegdpcfhmjnaaaGreatDoorVwB
import Derived.Test.YtoegdpcfhmjnaaaGreatDoorVwP
import Derived.Test.YtoegdpcfhmjnaaaGreatDoorNumA
import Derived.Deep.RegionHeld3
namespace Go.Proofs.YtoegdpcfhmjnaaaGreatDoor
open Go.RowKit Go.Bl
attribute [local go_sem ↓] Go.wp_at_zero Go.wp_at_succ

theorem nput_in (w : World) (n : Int) (h0 : 0 ≤ n) (h1 : n ≤ 1099511627776) : Calls Tryz.prog 71 #[.int .i64 n] w fun e w' => e = .returned (.string (Bl (numL n.toNat))) ∧ Below w.heap.size w w' :=
  put_any w n n.toNat (by unfold holdI gmax gmin; omega)
def ndL (x : Nd) : List UInt8 := numL x.node.toNat ++ (numL x.since.toNat ++ numL x.boot.toNat)
def accL (ep : Int) (n : Nat) (l : List Nd) : List UInt8 := numL ep.toNat ++ (numL n ++ l.flatMap ndL)
theorem ndI_flat (x : Nd) : (ndI x).flatMap numL = ndL x := by
  unfold ndI ndL
  simp
theorem vwL_acc (ep : Int) (L : List Nd) : vwL ⟨ep, L⟩ = accL ep L.length L := by
  unfold vwL vwI accL
  rw [List.flatMap_cons, List.flatMap_cons, List.flatMap_assoc]
  simp only [ndI_flat]
theorem accL_succ (ep : Int) (n : Nat) {L : List Nd} {k : Nat} (h : k < L.length) : accL ep n (L.take (k + 1)) = accL ep n (L.take k) ++ (numL L[k].node.toNat ++ (numL L[k].since.toNat ++ numL L[k].boot.toNat)) := by
  unfold accL
  rw [List.take_succ_eq_append_getElem h, List.flatMap_append]
  simp [ndL]
theorem ndL_len {x : Nd} (h : 1 ≤ x.node ∧ x.node ≤ 100 ∧ 1 ≤ x.since ∧ x.since ≤ 274877906944 ∧ 0 ≤ x.boot ∧ x.boot ≤ 274877906944) : (ndL x).length ≤ 18 := by
  unfold ndL
  have h1 := numL_len (n := x.node.toNat) (by omega)
  have h2 := numL_len (n := x.since.toNat) (by omega)
  have h3 := numL_len (n := x.boot.toNat) (by omega)
  rw [List.length_append, List.length_append]
  omega
theorem accL_len {ep : Int} {n : Nat} {l : List Nd} (he : ep ≤ 274877906944) (hn : n ≤ 6) (hl : l.length ≤ 6) (h : ∀ x ∈ l, 1 ≤ x.node ∧ x.node ≤ 100 ∧ 1 ≤ x.since ∧ x.since ≤ 274877906944 ∧ 0 ≤ x.boot ∧ x.boot ≤ 274877906944) : (accL ep n l).length ≤ 120 := by
  have hf : ∀ l : List Nd, (∀ x ∈ l, 1 ≤ x.node ∧ x.node ≤ 100 ∧ 1 ≤ x.since ∧ x.since ≤ 274877906944 ∧ 0 ≤ x.boot ∧ x.boot ≤ 274877906944) → (l.flatMap ndL).length ≤ 18 * l.length := fun l => by
    induction l with
    | nil => intro _; simp
    | cons x l ih =>
      intro h
      have h1 := ndL_len (h x List.mem_cons_self)
      have h2 := ih fun y hy => h y (List.mem_cons_of_mem _ hy)
      rw [List.flatMap_cons, List.length_append, List.length_cons]
      omega
  have h1 := numL_len (n := ep.toNat) (by omega)
  have h2 := numL_len (n := n) (by omega)
  have h3 := hf l h
  unfold accL
  rw [List.length_append, List.length_append]
  omega
set_option maxRecDepth 20000 in
set_option maxHeartbeats 8000000 in
theorem vput_any (w : World) (F : Nat → Prop) (ep : Int) (L : List Nd) (a b c : Value) (h : VwSl w F L a b c) (hr : RightV ⟨ep, L⟩) :
    Calls Tryz.prog 54 #[.agg #[.int .i64 ep, a, b, c]] w fun e w' => e = .returned (.string (Bl (vwL ⟨ep, L⟩))) ∧ Below w.heap.size w w' := by
  rw [vwL_acc]
  have he1 := hr.ep1
  have he2 := hr.ep2
  have hn1 := hr.n1
  have hn2 := hr.n2
  change 1 ≤ ep at he1
  change ep ≤ 274877906944 at he2
  change 1 ≤ L.length at hn1
  change L.length ≤ 6 at hn2
  have hbd : ∀ x ∈ L, 1 ≤ x.node ∧ x.node ≤ 100 ∧ 1 ≤ x.since ∧ x.since ≤ 274877906944 ∧ 0 ≤ x.boot ∧ x.boot ≤ 274877906944 := fun x hx => by
    have := hr.bd x hx
    have h4 : x.since ≤ ep := this.2.2.2.1
    exact ⟨this.1, this.2.1, this.2.2.1, by omega, this.2.2.2.2.1, this.2.2.2.2.2⟩
  obtain ⟨A, ca, B, cb, C, cc, rfl, rfl, rfl, hca, hcm, hcb, hcc⟩ := h.shape
  have hB0 : Below w.heap.size w (w.alloc (.cells #[.int .i64 ep, .slice A L.length ca, .slice B L.length cb, .slice C L.length cc] 45)) := (Below.refl _ w).alloc (Nat.le_refl _) _
  have hblk := heap_alloc_new w (.cells #[.int .i64 ep, .slice A L.length ca, .slice B L.length cb, .slice C L.length cc] 45)
  have hR := right_any _ F ep L _ _ _ (h.fresh hB0)
  rw [rightV_iff.2 hr] at hR
  have HR := Lib.hid hR
  have H := Lib.hid (h.fresh hB0)
  have HB := Lib.hid hB0
  have HBK := Lib.hid hblk
  have HBD := Lib.hid hbd
  clear h hB0 hblk hR hr hbd
  go_enter Tryz.func54, Tryz.ntmps54
  go_upto_region 1 with (fail)
  obtain ⟨q, hq⟩ : ∃ q, w.heap.size = q := ⟨_, rfl⟩
  rw [hq] at HBK ⊢
  generalize w.alloc (.cells #[.int .i64 ep, .slice A L.length ca, .slice B L.length cb, .slice C L.length cc] 45) = w0 at H HB HBK HR ⊢
  have c0 : w0.cell? ⟨q, 0, none⟩ = some (.int .i64 ep) := cell_of_row w0 q 0 _ _ _ HBK.out
  have c1 : w0.cell? ⟨q, 1, none⟩ = some (.slice A L.length ca) := cell_of_row w0 q 1 _ _ _ HBK.out
  have c2 : w0.cell? ⟨q, 2, none⟩ = some (.slice B L.length cb) := cell_of_row w0 q 2 _ _ _ HBK.out
  have c3 : w0.cell? ⟨q, 3, none⟩ = some (.slice C L.length cc) := cell_of_row w0 q 3 _ _ _ HBK.out
  clear hq
  go_wp2_with fail
  refine HR.out.mono ?_
  rintro e w1 ⟨rfl, hB1⟩
  have hq0 : q < w0.heap.size := (Array.getElem?_eq_some_iff.1 HBK.out).1
  have HK1 := Lib.hid ((hB1.block q hq0).trans HBK.out)
  have HV1 := Lib.hid (H.out.fresh hB1)
  have HB1 := Lib.hid (HB.out.trans (hB1.mono HB.out.size))
  clear hB1 c0 c1 c2 c3 H HR HB HBK
  have hq1 : q < w1.heap.size := (Array.getElem?_eq_some_iff.1 HK1.out).1
  have c0 : w1.cell? ⟨q, 0, none⟩ = some (.int .i64 ep) := cell_of_row w1 q 0 _ _ _ HK1.out
  have c1 : w1.cell? ⟨q, 1, none⟩ = some (.slice A L.length ca) := cell_of_row w1 q 1 _ _ _ HK1.out
  go_upto_region 3 with (fail)
  have C1 := Lib.hid (fun W => nput_in W ep (by omega) (by omega))
  have C2 := Lib.hid (fun W => nput_in W (L.length : Int) (by omega) (by omega))
  rw [Int.toNat_natCast] at C2
  have p1 := numL_len (n := ep.toNat) (by omega)
  have p2 := numL_len (n := L.length) (by omega)
  have HX : Hid (Bl (numL ep.toNat) ++ Bl (numL L.length) = Bl (accL ep L.length (L.take 0))) := Lib.hid (by unfold accL; rw [← Bl_append]; simp)
  obtain ⟨P1, hP1⟩ : ∃ x, Bl (numL ep.toNat) = x := ⟨_, rfl⟩
  obtain ⟨P2, hP2⟩ : ∃ x, Bl (numL L.length) = x := ⟨_, rfl⟩
  have s1 : P1.size ≤ 6 := by rw [← hP1, Bl_size]; exact p1
  have s2 : P2.size ≤ 6 := by rw [← hP2, Bl_size]; exact p2
  rw [hP1] at C1 HX
  rw [hP2] at C2 HX
  have hnov : ¬ 9223372036854775807 < P1.size + P2.size := by omega
  have HA := Lib.hid (show Below w1.heap.size w1 w1.drew from ⟨rfl, rfl, rfl, Nat.le_refl _, fun _ _ => rfl⟩)
  clear hP1 hP2 p1 p2
  go_cut [3] (fun s3 wx => s3 = .string (P1 ++ P2) ∧ Below w1.heap.size w1 wx)
  case first =>
    go_region_held3 (fun x => x.cell? ⟨q, 0, none⟩ = some (.int .i64 ep) ∧ x.cell? ⟨q, 1, none⟩ = some (.slice A L.length ca))
      (first | with_reducible exact ⟨y0, y1⟩ | with_reducible exact ⟨c0, c1⟩ | go_keep)
      (first
        | (go_at_call 71
           with_reducible refine (C1.out _).mono ?_
           rintro e w2 ⟨rfl, hB2⟩
           have HA := Lib.hid (show Below w1.heap.size w1 w2 from HA.out.trans hB2)
           clear hB2
           have y0 := (HA.out.cell (p := ⟨q, 0, none⟩) hq1).trans c0
           have y1 := (HA.out.cell (p := ⟨q, 1, none⟩) hq1).trans c1
          )
        | (go_at_call 71
           with_reducible refine (C2.out _).mono ?_
           rintro e w3 ⟨rfl, hB3⟩
           have HA := Lib.hid (show Below w1.heap.size w1 w3 from HA.out.trans (hB3.mono HA.out.size))
           clear hB3
           have y0 := (HA.out.cell (p := ⟨q, 0, none⟩) hq1).trans c0
           have y1 := (HA.out.cell (p := ⟨q, 1, none⟩) hq1).trans c1
          ))
    go_wp2_with fail
    go_meet
    exact ⟨rfl, HA.out⟩
  case rest =>
    obtain ⟨rfl, hB2⟩ := hcut
    rw [HX.out]
    have HBc := Lib.hid (HB1.out.trans (hB2.mono HB1.out.size))
    have HVc := Lib.hid (HV1.out.fresh hB2)
    have HKc := Lib.hid ((hB2.block q hq1).trans HK1.out)
    clear hB2 c0 c1 hnov C1 C2 HA HX hq1 s1 s2 HV1 HK1 HB1
    have hq1 : q < wc.heap.size := (Array.getElem?_eq_some_iff.1 HKc.out).1
    have c1 : wc.cell? ⟨q, 1, none⟩ = some (.slice A L.length ca) := cell_of_row wc q 1 _ _ _ HKc.out
    go_wp2_with fail
    go_loopw [3, 20] (fun s i wr => ∃ k : Nat, k ≤ L.length ∧ s = .string (Bl (accL ep L.length (L.take k))) ∧ i = .int .i64 k ∧ Below wc.heap.size wc wr) (fun _ i _ => L.length - (intOf i).toNat)
    case atStart => exact ⟨0, Nat.zero_le _, rfl, rfl, Below.refl _ _⟩
    case round =>
      obtain ⟨k, hk, rfl, rfl, hB3⟩ := hrel
      have HBr := Lib.hid (HBc.out.trans (hB3.mono HBc.out.size))
      have HBk := Lib.hid hB3
      have HKr := Lib.hid ((hB3.block q hq1).trans HKc.out)
      have HVr := Lib.hid (HVc.out.fresh hB3)
      clear hB3 c1
      by_cases hlt : k < L.length
      · have d0 : decide ((k : Int) < (L.length : Int)) = true := decide_eq_true (by omega)
        have hb := HBD.out L[k] (List.getElem_mem hlt)
        have hac := accL_succ ep L.length hlt
        have hal := accL_len (ep := ep) (n := L.length) (l := L.take k) he2 hn2 (by rw [List.length_take]; omega) (fun x hx => HBD.out x (List.mem_of_mem_take hx))
        obtain ⟨qa, oa, rfl, _, hqa, hxx⟩ := HVr.out.ch.cell_ (i := k) (by rw [List.length_map]; exact hlt)
        have x0 := hxx 0 _ rfl
        obtain ⟨qb, ob, rfl, _, hqb, hyy⟩ := HVr.out.si.cell_ (i := k) (by rw [List.length_map]; exact hlt)
        have y0 := hyy 0 _ rfl
        obtain ⟨qc, oc, rfl, _, hqc, hzz⟩ := HVr.out.bo.cell_ (i := k) (by rw [List.length_map]; exact hlt)
        have z0 := hzz 0 _ rfl
        rw [Nat.mul_one, Nat.add_zero, List.getElem_map] at x0 y0 z0
        obtain ⟨nd, hnd⟩ : ∃ x, x = L[k].node := ⟨_, rfl⟩
        obtain ⟨si, hsi⟩ : ∃ x, x = L[k].since := ⟨_, rfl⟩
        obtain ⟨bo, hbo⟩ : ∃ x, x = L[k].boot := ⟨_, rfl⟩
        rw [← hnd] at x0 hb hac
        rw [← hsi] at y0 hb hac
        rw [← hbo] at z0 hb hac
        obtain ⟨b1, b2, b3, b4, b5, b6⟩ := hb
        have C1 := Lib.hid (fun W => nput_in W nd (by omega) (by omega))
        have C2 := Lib.hid (fun W => nput_in W si (by omega) (by omega))
        have C3 := Lib.hid (fun W => nput_in W bo (by omega) (by omega))
        have p1 := numL_len (n := nd.toNat) (by omega)
        have p2 := numL_len (n := si.toNat) (by omega)
        have p3 := numL_len (n := bo.toNat) (by omega)
        have HX : Hid (Bl (accL ep L.length (L.take (k + 1))) = Bl (accL ep L.length (L.take k)) ++ (Bl (numL nd.toNat) ++ Bl (numL si.toNat) ++ Bl (numL bo.toNat))) := Lib.hid (by rw [hac]; simp only [← Bl_append, List.append_assoc])
        obtain ⟨P1, hP1⟩ : ∃ x, Bl (numL nd.toNat) = x := ⟨_, rfl⟩
        obtain ⟨P2, hP2⟩ : ∃ x, Bl (numL si.toNat) = x := ⟨_, rfl⟩
        obtain ⟨P3, hP3⟩ : ∃ x, Bl (numL bo.toNat) = x := ⟨_, rfl⟩
        obtain ⟨Q, hQ⟩ : ∃ x, Bl (accL ep L.length (L.take k)) = x := ⟨_, rfl⟩
        have s1 : P1.size ≤ 6 := by rw [← hP1, Bl_size]; exact p1
        have s2 : P2.size ≤ 6 := by rw [← hP2, Bl_size]; exact p2
        have s3 : P3.size ≤ 6 := by rw [← hP3, Bl_size]; exact p3
        have s4 : Q.size ≤ 120 := by rw [← hQ, Bl_size]; exact hal
        rw [hP1] at C1 HX
        rw [hP2] at C2 HX
        rw [hP3] at C3 HX
        rw [hQ] at HX ⊢
        have hn1 : ¬ 9223372036854775807 < P1.size + P2.size := by omega
        have hn2 : ¬ 9223372036854775807 < P1.size + P2.size + P3.size := by omega
        have hn3 : ¬ 9223372036854775807 < Q.size + (P1.size + P2.size + P3.size) := by omega
        have hk0 : (0 : Int) ≤ (k : Int) := Int.natCast_nonneg _
        have hk1 : (k : Int) < (L.length : Int) := by omega
        have hq2 : q < wr.heap.size := (Array.getElem?_eq_some_iff.1 HKr.out).1
        have c2 : wr.cell? ⟨q, 2, none⟩ = some (.slice (some ⟨qb, ob, none⟩) L.length cb) := cell_of_row wr q 2 _ _ _ HKr.out
        have c3 : wr.cell? ⟨q, 3, none⟩ = some (.slice (some ⟨qc, oc, none⟩) L.length cc) := cell_of_row wr q 3 _ _ _ HKr.out
        have hq1 := hq2
        have HA := Lib.hid (show Below wr.heap.size wr wr.drew from ⟨rfl, rfl, rfl, Nat.le_refl _, fun _ _ => rfl⟩)
        clear hP1 hP2 hP3 hQ p1 p2 p3 hac hal hxx hyy hzz hnd hsi hbo
        go_upto_region 7 with (fail)
        go_region_held3 (fun x => x.cell? ⟨q, 2, none⟩ = some (.slice (some ⟨qb, ob, none⟩) L.length cb) ∧ x.cell? ⟨q, 3, none⟩ = some (.slice (some ⟨qc, oc, none⟩) L.length cc) ∧ x.cell? ⟨qb, ob + k, none⟩ = some (.int .i64 si) ∧ x.cell? ⟨qc, oc + k, none⟩ = some (.int .i64 bo))
          (first | with_reducible exact ⟨u0, u1, u2, u3⟩ | with_reducible exact ⟨c2, c3, y0, z0⟩ | go_keep)
          (first
            | (go_at_call 71
               with_reducible refine (C1.out _).mono ?_
               rintro e w2 ⟨rfl, hB2⟩
               have HA := Lib.hid (show Below wr.heap.size wr w2 from HA.out.trans hB2)
               clear hB2
               have u0 := (HA.out.cell (p := ⟨q, 2, none⟩) hq1).trans c2
               have u1 := (HA.out.cell (p := ⟨q, 3, none⟩) hq1).trans c3
               have u2 := (HA.out.cell (p := ⟨qb, ob + k, none⟩) hqb).trans y0
               have u3 := (HA.out.cell (p := ⟨qc, oc + k, none⟩) hqc).trans z0
              )
            | (go_at_call 71
               with_reducible refine (C2.out _).mono ?_
               rintro e w3 ⟨rfl, hB3⟩
               have HA := Lib.hid (show Below wr.heap.size wr w3 from HA.out.trans (hB3.mono HA.out.size))
               clear hB3
               have u0 := (HA.out.cell (p := ⟨q, 2, none⟩) hq1).trans c2
               have u1 := (HA.out.cell (p := ⟨q, 3, none⟩) hq1).trans c3
               have u2 := (HA.out.cell (p := ⟨qb, ob + k, none⟩) hqb).trans y0
               have u3 := (HA.out.cell (p := ⟨qc, oc + k, none⟩) hqc).trans z0
              )
            | (go_at_call 71
               with_reducible refine (C3.out _).mono ?_
               rintro e w4 ⟨rfl, hB4⟩
               have HA := Lib.hid (show Below wr.heap.size wr w4 from HA.out.trans (hB4.mono HA.out.size))
               clear hB4
               have u0 := (HA.out.cell (p := ⟨q, 2, none⟩) hq1).trans c2
               have u1 := (HA.out.cell (p := ⟨q, 3, none⟩) hq1).trans c3
               have u2 := (HA.out.cell (p := ⟨qb, ob + k, none⟩) hqb).trans y0
               have u3 := (HA.out.cell (p := ⟨qc, oc + k, none⟩) hqc).trans z0
              ))
        go_wp2_with fail
        go_roundw
        case rel => exact ⟨k + 1, hlt, by rw [HX.out], by go_num, HBk.out.trans (HA.out.mono HBk.out.size)⟩
        case measure => simp [intOf]; omega
      · have hkl : k = L.length := by omega
        subst hkl
        have d0 : decide ((L.length : Int) < (L.length : Int)) = false := by simp
        have HT : Hid (L.take L.length = L) := Lib.hid List.take_length
        go_wp2_with fail
        go_ret
        rw [HT.out]
        exact ⟨rfl, HBr.out⟩
end Go.Proofs.YtoegdpcfhmjnaaaGreatDoor
