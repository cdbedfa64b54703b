/- HistoryLost: what the statement's function does: it answers true. Under the tables that utf8 lays. -/
import Derived.Test.YthdcnknjjbdefaaGreatDoorHisH
import Derived.Test.YthdcnknjjbdefaaGreatDoorBlQ
import Derived.Test.YthdcnknjjbdefaaGreatDoorCodT
import Derived.Test.YthdcnknjjbdefaaGreatDoorHisT
import Derived.Test.YthdcnknjjbdefaaGreatDoorHisK
/- The history: Lost: how many are not there. Under the stated premises on sizes. -/
namespace Go.Bl
variable {P : Program} {ops : Array Oper} {C : World → Prop}
/-- A load of many cells at once, amid quiet steps. -/
theorem quiet_load {Q : Act → Prop} {a : Act} {o : Oper} {rest : List Oper} (hw : Region.wanted o (yielded ops a.tmps) = true) (ty : TypeId) (x : Operand) (ho : o.op = .load ty x) (b off : Nat) (hx : a.eval x = .pointer (some ⟨b, off, none⟩)) (cs : List Value) (d : TypeDesc)
    (hc : ∀ w, C w → w.rangeAt b off cs) (hu : P.underlying ty = some d) (hd : d.isRow = true) (hi : (P.info? ty).map (·.size) = some cs.length)
    (h : wpQuiet P ops C Q rest (a.put o.dst (.agg cs.toArray))) : wpQuiet P ops C Q (o :: rest) a := by
  unfold wpQuiet
  rw [if_pos hw]
  refine ⟨_, fun w hC => ?_, h⟩
  unfold Oper.quietAt execOp
  simp only [ho, hx, Instr.loadAt, Instr.sureAddr, Sem.run_bind, Sem.run_pure, Result.andThen_ok, run_loadVar_mid w b off ty cs d (hc w hC) hu hd hi]
  exact ⟨rfl, rfl⟩
end Go.Bl
namespace Go.Proofs.YthdcnknjjbdefaaGreatDoor.His
open Go.RowKit Go.Bl
attribute [local go_sem ↓] Go.wp_at_zero Go.wp_at_succ

theorem lostN_succ {log : List Ent} {ops : List Hop} {k : Nat} (h : k < ops.length) : lostN log (ops.take (k + 1)) = lostN log (ops.take k) + if lostB log ops[k] = true then 1 else 0 := by
  unfold lostN
  rw [List.take_succ_eq_append_getElem h, List.filter_append, List.length_append]
  congr 1
  cases hb : lostB log ops[k]
  · simp [hb]
  · simp [hb]
set_option maxRecDepth 10000 in
set_option maxHeartbeats 4000000 in
theorem lost_any (w : World) (vl : Value) (log : List Ent) (h : EntsOk w (fun b => b < w.heap.size) vl log) (hl : log.length ≤ 100) (vo : Value) (ops : List Hop) (hS : Sl w (fun b => b < w.heap.size) 17 opc vo ops) (ho : ∀ o ∈ ops, OpOk w (fun b => b < w.heap.size) o) (hn1 : ops.length ≤ 1000) :
    Calls Tryz.prog 24 #[vl, vo] w fun e w' => e = .returned (.int .i64 (lostN log ops)) ∧ Below w.heap.size w w' := by
  obtain ⟨A, c, rfl, hA1, hA2⟩ := hS.shape
  obtain ⟨B, d, rfl, hB1, hB2⟩ := h.1.shape
  unfold maxLen at hA2 hB2
  have HE := Lib.hid h
  have HS := Lib.hid hS
  have HO := Lib.hid ho
  obtain ⟨n, hn⟩ : ∃ n, ops.length = n := ⟨_, rfl⟩
  have HN := Lib.hid hn
  obtain ⟨M, hM⟩ : ∃ M, log.length = M := ⟨_, rfl⟩
  have HM := Lib.hid hM
  rw [hn] at hA1 HS hn1 ⊢
  rw [hM] at hB1 HE hl ⊢
  clear h hS ho hn hM
  go_enter Tryz.func24, Tryz.ntmps24
  go_wp2_with fail
  go_loopw [5, 11] (fun l i wr => ∃ k : Nat, k ≤ n ∧ i = .int .i64 k ∧ l = .int .i64 (lostN log (ops.take k)) ∧ Below w.heap.size w wr) (fun _ i _ => n - (RowKit.intOf i).toNat)
  case atStart => exact ⟨0, Nat.zero_le _, rfl, rfl, Below.refl _ _⟩
  case round =>
    rename World => wr
    obtain ⟨k, hk, rfl, rfl, hBr⟩ := hrel
    have HBr := Lib.hid hBr
    clear hBr
    obtain ⟨N, hN⟩ : ∃ N, lostN log (ops.take k) = N := ⟨_, rfl⟩
    rw [hN]
    have HNN := Lib.hid hN
    clear hN
    by_cases hlt : k < n
    · have hkl : k < ops.length := by rw [HN.out]; exact hlt
      have hSr := HS.out.fresh HBr.out
      obtain ⟨b0, o0, hAe, _, _, _⟩ := hSr.cell_ hkl
      cases hAe
      have hld := load_elem hSr hkl
      have hoo := HO.out _ (List.getElem_mem hkl)
      have hone := opc_one w hoo
      have hpr := hoo.pos
      have hsucc := lostN_succ (log := log) hkl
      rw [HNN.out] at hsucc
      obtain ⟨o, hoe⟩ : ∃ o, ops[k] = o := ⟨_, rfl⟩
      rw [hoe] at hld hone hpr hsucc
      have HSUC := Lib.hid hsucc
      have HLD := Lib.hid hld
      have HONE := Lib.hid hone
      have hBo := (Below.refl wr.heap.size wr).alloc (Nat.le_refl _) (.cells (opc o).toArray 36)
      have hgo := heap_alloc_new wr (.cells (opc o).toArray 36)
      have hk0 : (0 : Int) ≤ (k : Int) := by omega
      have hk1 : (k : Int) < (n : Int) := by omega
      have hNle : N ≤ k := by rw [← HNN.out]; unfold lostN; exact Nat.le_trans (List.length_filter_le _ _) (by rw [List.length_take]; omega)
      clear hSr hld hoo hone hsucc hoe
      go_upto_region 5 with (first | (refine op_load rfl (.tmp 13) rfl b0 (o0 + k * 17) rfl o HLD.out ?_) | (refine op_store rfl (.tmp 7) (.tmp 14) rfl _ rfl o rfl rfl rfl HONE.out ?_))
      obtain ⟨go, hgoe⟩ : ∃ g, wr.heap.size = g := ⟨_, rfl⟩
      rw [hgoe] at hgo ⊢
      generalize wr.alloc (.cells (opc o).toArray 36) = w6 at hBo hgo ⊢
      have HB6 := Lib.hid (HBr.out.trans (hBo.mono HBr.out.size))
      have HGO6 := Lib.hid hgo
      have HLD6 := Lib.hid (load_box hgo)
      have z0 : w6.cell? ⟨go, 0, none⟩ = some (.int .i64 o.kind) := cell_of_row w6 go 0 _ _ _ hgo
      have z3 : w6.cell? ⟨go, 3, none⟩ = some (.int .i64 o.end_) := cell_of_row w6 go 3 _ _ _ hgo
      have z9 : w6.cell? ⟨go, 9, none⟩ = some (.int .i64 o.out.code) := cell_of_row w6 go 9 _ _ _ hgo
      have z10 : w6.cell? ⟨go, 10, none⟩ = some (.int .i64 o.out.pos) := cell_of_row w6 go 10 _ _ _ hgo
      clear hBo hgo hgoe
      by_cases h1 : o.kind = 1
      case neg =>
        have d1 : (o.kind != 1) = true := by simpa using h1
        have HS2 : Hid (lostN log (ops.take (k + 1)) = N) := Lib.hid (by rw [HSUC.out, if_neg (by simp [lostB, h1]), Nat.add_zero])
        go_wp2_with fail
        go_roundw
        case rel => exact ⟨k + 1, hlt, by go_num, by rw [HS2.out], HB6.out⟩
        case measure => simp [RowKit.intOf]; omega
      have d1 : (o.kind != 1) = false := by simpa using h1
      by_cases h2 : o.end_ < 0
      case pos =>
        have d2 : decide (o.end_ < 0) = true := decide_eq_true h2
        have HS2 : Hid (lostN log (ops.take (k + 1)) = N) := Lib.hid (by rw [HSUC.out, if_neg (by unfold lostB; rw [decide_eq_false (show ¬ 0 ≤ o.end_ by omega)]; simp), Nat.add_zero])
        go_wp2_with fail
        go_roundw
        case rel => exact ⟨k + 1, hlt, by go_num, by rw [HS2.out], HB6.out⟩
        case measure => simp [RowKit.intOf]; omega
      have d2 : decide (o.end_ < 0) = false := decide_eq_false h2
      by_cases h3 : o.out.code = 1
      case neg =>
        have d3 : (o.out.code != 1) = true := by simpa using h3
        have HS2 : Hid (lostN log (ops.take (k + 1)) = N) := Lib.hid (by rw [HSUC.out, if_neg (by simp [lostB, h3]), Nat.add_zero])
        go_wp2_with fail
        go_roundw
        case rel => exact ⟨k + 1, hlt, by go_num, by rw [HS2.out], HB6.out⟩
        case measure => simp [RowKit.intOf]; omega
      have d3 : (o.out.code != 1) = false := by simpa using h3
      have hlb : lostB log o = !(decide (1 ≤ o.out.pos) && (match log[(o.out.pos - 1).toNat]? with | some a => reqB a o | none => false)) := by
        unfold lostB
        rw [decide_eq_true h1, decide_eq_true (show 0 ≤ o.end_ by omega), decide_eq_true h3, Bool.true_and, Bool.true_and, Bool.true_and]
        rfl
      have HLB := Lib.hid hlb
      clear hlb
      by_cases h4 : o.out.pos < 1
      case pos =>
        have d4 : decide (o.out.pos < 1) = true := decide_eq_true h4
        have HS2 : Hid (lostN log (ops.take (k + 1)) = N + 1) := Lib.hid (by rw [HSUC.out, if_pos (by rw [HLB.out, decide_eq_false (by omega)]; rfl)])
        clear h1 h2 h3
        go_wp2_with fail
        go_quiet (fail)
        go_wp2_with fail
        go_roundw
        case rel => exact ⟨k + 1, hlt, by go_num, by rw [HS2.out]; go_num, HB6.out.trans ((show Below w6.heap.size w6 (w6.drewN _) from ⟨rfl, rfl, rfl, Nat.le_refl _, fun _ _ => rfl⟩).mono HB6.out.size)⟩
        case measure => simp [RowKit.intOf]; omega
      have d4 : decide (o.out.pos < 1) = false := decide_eq_false h4
      by_cases h5 : (M : Int) < o.out.pos
      case pos =>
        have d5 : decide ((M : Int) < o.out.pos) = true := decide_eq_true h5
        have d5' : decide (o.out.pos > (M : Int)) = true := decide_eq_true h5
        have HS2 : Hid (lostN log (ops.take (k + 1)) = N + 1) := Lib.hid (by
          rw [HSUC.out, if_pos (by rw [HLB.out, List.getElem?_eq_none (by rw [HM.out]; omega)]; simp)])
        clear h1 h2 h3 h4
        go_wp2_with fail
        go_quiet (fail)
        go_wp2_with fail
        go_roundw
        case rel => exact ⟨k + 1, hlt, by go_num, by rw [HS2.out]; go_num, HB6.out.trans ((show Below w6.heap.size w6 (w6.drewN _) from ⟨rfl, rfl, rfl, Nat.le_refl _, fun _ _ => rfl⟩).mono HB6.out.size)⟩
        case measure => simp [RowKit.intOf]; omega
      have d5 : decide ((M : Int) < o.out.pos) = false := decide_eq_false h5
      have d5' : decide (o.out.pos > (M : Int)) = false := decide_eq_false h5
      obtain ⟨q, hq⟩ : ∃ q : Nat, o.out.pos = (q : Int) + 1 := ⟨(o.out.pos - 1).toNat, by omega⟩
      have hql : q < log.length := by rw [HM.out]; omega
      have hst : lostB log o = !reqB log[q] o := by
        rw [HLB.out, hq, show ((q : Int) + 1 - 1).toNat = q by omega, List.getElem?_eq_getElem hql, decide_eq_true (by omega), Bool.true_and]
      have hEr := (HE.out.fresh HB6.out).1
      obtain ⟨b2, o2, hBe, _, _, hx2⟩ := hEr.cell_ hql
      cases hBe
      obtain ⟨ea, hea⟩ : ∃ ea, log[q] = ea := ⟨_, rfl⟩
      rw [hea] at hx2 hst
      have e0 := hx2 0 _ rfl
      have e1 := hx2 1 _ rfl
      have e2 := hx2 2 _ rfl
      have e3 := hx2 3 _ rfl
      have e4 := hx2 4 _ rfl
      have e5 := hx2 5 _ rfl
      have e6 := hx2 6 _ rfl
      simp only [Nat.add_zero] at e0
      have hreq := fun (wz : World) => request_any wz ea o
      unfold entv at hreq
      have HREQ := Lib.hid hreq
      obtain ⟨R, hR⟩ : ∃ R, reqB ea o = R := ⟨_, rfl⟩
      rw [hR] at hst HREQ
      have HST := Lib.hid hst
      simp only [hq] at z10 d4 d5 d5'
      have hsub : IntKind.i64.wrap ((q : Int) + 1 - 1) = (q : Int) := by rw [IntKind.wrap_i64]; omega
      have hq0 : (0 : Int) ≤ (q : Int) := by omega
      have hq1 : (q : Int) < (M : Int) := by have := HM.out; omega
      clear hEr hx2 hea hreq hR hst h1 h2 h3 h4 h5 hq hpr hql
      go_upto_region 7 with (fail)
      obtain ⟨dT, u1, u2⟩ := hu36
      refine region_mid 15 rfl (by kernel_rfl) (by kernel_rfl) ?_
      simp only [List.take_succ_cons, List.take_zero, List.drop_succ_cons, List.drop_zero]
      change wpStill _ _ w6.drew _ _ _
      refine still_of_quiet ?_
      repeat (first | (refine quiet_load (by rfl) 36 (.tmp 7) rfl go 0 rfl (opc o) dT (fun wz hz => by rw [hz]; exact HLD6.out) u1 u2 (hi36 _) ?_) | go_big_quiet_step (fail))
      refine wpQuiet_nil ?_
      change wpList _ _ _ _ _ w6.drew
      go_wp2_with fail
      refine (HREQ.out _).mono ?_
      rintro e wz ⟨rfl, hBz⟩
      have hBz : Below w6.heap.size w6 wz := ⟨hBz.os, hBz.tape, hBz.output, hBz.size, hBz.block⟩
      have HBz := Lib.hid (HB6.out.trans (hBz.mono HB6.out.size))
      clear hBz z0 z3 z9 z10 e0 e1 e2 e3 e4 e5 e6
      go_wp2_with fail
      unfold Go.Bl.Rest
      refine still_of_quiet ?_
      repeat (go_big_quiet_step (fail))
      refine wpQuiet_nil ?_
      cases R
      · have HS2 : Hid (lostN log (ops.take (k + 1)) = N + 1) := Lib.hid (by rw [HSUC.out, HST.out, Bool.not_false, if_pos rfl])
        go_wp2_with fail
        go_roundw
        case rel => exact ⟨k + 1, hlt, by go_num, by rw [HS2.out]; go_num, HBz.out⟩
        case measure => simp [RowKit.intOf]; omega
      · have HS2 : Hid (lostN log (ops.take (k + 1)) = N) := Lib.hid (by rw [HSUC.out, HST.out, Bool.not_true, if_neg (by decide), Nat.add_zero])
        go_wp2_with fail
        go_roundw
        case rel => exact ⟨k + 1, hlt, by go_num, by rw [HS2.out], HBz.out⟩
        case measure => simp [RowKit.intOf]; omega
    · have hkn : k = n := by omega
      subst hkn
      have HF : Hid (lostN log ops = N) := Lib.hid (by rw [← HNN.out, List.take_of_length_le (by rw [HN.out]; exact Nat.le_refl _)])
      go_wp2_with fail
      go_ret
      exact ⟨by rw [HF.out]; rfl, HBr.out⟩
end Go.Proofs.YthdcnknjjbdefaaGreatDoor.His

/- The history: how far two logs are one: the system's answer, the document's. Under the stated premises on sizes. -/
namespace Go.Proofs.YthdcnknjjbdefaaGreatDoor.His
open Go.RowKit Go.Bl
attribute [local go_sem ↓] Go.wp_at_zero Go.wp_at_succ

def agreeN : List Ent → List Ent → Nat
  | a :: l, b :: m => if sameEnt a b = true then agreeN l m + 1 else 0
  | _, _ => 0
theorem agreeN_of : ∀ {la lb : List Ent} {k : Nat}, (∀ i (h : i < la.length) (h2 : i < lb.length), i < k → sameEnt la[i] lb[i] = true) → k ≤ la.length → k ≤ lb.length → (k = la.length ∨ k = lb.length ∨ ∃ h : k < la.length, ∃ h2 : k < lb.length, sameEnt la[k] lb[k] = false) → agreeN la lb = k
  | [], _, k, _, h, _, _ => by simp at h; subst h; rfl
  | _ :: _, [], k, _, _, h, _ => by simp at h; subst h; rfl
  | a :: la, b :: lb, 0, hs, _, _, h => by
    rcases h with h | h | ⟨_, _, h⟩
    · simp at h
    · simp at h
    · unfold agreeN
      have h : sameEnt a b = false := h
      rw [if_neg (by simp [h])]
  | a :: la, b :: lb, k + 1, hs, h1, h2, h => by
    have h0 : sameEnt a b = true := hs 0 (by simp) (by simp) (by omega)
    unfold agreeN
    rw [if_pos h0]
    congr 1
    refine agreeN_of (fun i g1 g2 gi => hs (i + 1) (by simpa using g1) (by simpa using g2) (by omega)) (by simpa using h1) (by simpa using h2) ?_
    rcases h with h | h | ⟨g1, g2, h⟩
    · exact .inl (by simpa using h)
    · exact .inr (.inl (by simpa using h))
    · exact .inr (.inr ⟨by simpa using g1, by simpa using g2, h⟩)
section
variable (w : World) (va vb : Value) (la lb : List Ent) (ha : EntsOk w (fun b => b < w.heap.size) va la) (hb : EntsOk w (fun b => b < w.heap.size) vb lb) (hna : la.length ≤ 1000)
include ha hb hna
set_option maxRecDepth 10000 in
set_option maxHeartbeats 4000000 in
theorem agree_any : Calls Tryz.prog 22 #[va, vb] w fun e w' => e = .returned (.int .i64 (agreeN la lb)) ∧ Below w.heap.size w w' := by
  have hmn := @run_gmin Tryz.prog
  obtain ⟨A, c, rfl, hA1, hA2⟩ := ha.1.shape
  obtain ⟨B, d, rfl, hB1, hB2⟩ := hb.1.shape
  unfold maxLen at hA2 hB2
  have HA := Lib.hid ha
  have HB := Lib.hid hb
  obtain ⟨n, hn⟩ : ∃ n, la.length = n := ⟨_, rfl⟩
  obtain ⟨m, hm⟩ : ∃ m, lb.length = m := ⟨_, rfl⟩
  have HN := Lib.hid hn
  have HM := Lib.hid hm
  rw [hn] at hA1 HA hna ⊢
  rw [hm] at hB1 HB ⊢
  clear ha hb hn hm
  go_enter Tryz.func22, Tryz.ntmps22
  go_wp2_with fail
  go_loopw [5] (fun i wr => ∃ k : Nat, k ≤ n ∧ k ≤ m ∧ i = .int .i64 k ∧ (∀ i (h : i < la.length) (h2 : i < lb.length), i < k → sameEnt la[i] lb[i] = true) ∧ Below w.heap.size w wr) (fun i _ => n - (RowKit.intOf i).toNat)
  case atStart => exact ⟨0, Nat.zero_le _, Nat.zero_le _, rfl, fun _ _ _ h => by omega, Below.refl _ _⟩
  case round =>
    rename World => wr
    obtain ⟨k, hk, hk2, rfl, hsm, hBr⟩ := hrel
    have HSM := Lib.hid hsm
    have HBr := Lib.hid hBr
    clear hsm hBr
    by_cases hlt : k < n
    case neg =>
      have hkn : k = n := by omega
      have HF : Hid (agreeN la lb = k) := Lib.hid (agreeN_of HSM.out (by rw [HN.out]; omega) (by rw [HM.out]; omega) (.inl (by rw [HN.out]; exact hkn)))
      have d1 : decide ((k : Int) < (n : Int)) = false := decide_eq_false (by omega)
      have d2 : decide ((k : Int) < gmin (n : Int) (m : Int)) = false := decide_eq_false (by unfold gmin; omega)
      clear hkn
      go_wp2_with fail
      go_quiet (fail)
      go_wp2_with fail
      go_ret
      exact ⟨by rw [HF.out]; rfl, HBr.out.trans ((show Below wr.heap.size wr (wr.drewN _) from ⟨rfl, rfl, rfl, Nat.le_refl _, fun _ _ => rfl⟩).mono HBr.out.size)⟩
    by_cases hlt2 : k < m
    case neg =>
      have hkn : k = m := by omega
      have HF : Hid (agreeN la lb = k) := Lib.hid (agreeN_of HSM.out (by rw [HN.out]; omega) (by rw [HM.out]; omega) (.inr (.inl (by rw [HM.out]; exact hkn))))
      have d0 : decide ((k : Int) < (n : Int)) = true := decide_eq_true (by omega)
      have d1 : decide ((k : Int) < (m : Int)) = false := decide_eq_false (by omega)
      have d2 : decide ((k : Int) < gmin (n : Int) (m : Int)) = false := decide_eq_false (by unfold gmin; omega)
      clear hkn
      go_wp2_with fail
      go_quiet (fail)
      go_wp2_with fail
      go_ret
      exact ⟨by rw [HF.out]; rfl, HBr.out.trans ((show Below wr.heap.size wr (wr.drewN _) from ⟨rfl, rfl, rfl, Nat.le_refl _, fun _ _ => rfl⟩).mono HBr.out.size)⟩
    have d0 : decide ((k : Int) < (n : Int)) = true := decide_eq_true (by omega)
    have d1 : decide ((k : Int) < (m : Int)) = true := decide_eq_true (by omega)
    have d2 : decide ((k : Int) < gmin (n : Int) (m : Int)) = true := decide_eq_true (by unfold gmin; omega)
    have hka : k < la.length := by rw [HN.out]; exact hlt
    have hkb : k < lb.length := by rw [HM.out]; exact hlt2
    have hag := agreeN_of (la := la) (lb := lb) (k := k) HSM.out (by omega) (by omega)
    have hmore : sameEnt la[k] lb[k] = true → ∀ i (h : i < la.length) (h2 : i < lb.length), i < k + 1 → sameEnt la[i] lb[i] = true := fun hs i h h2 hi => by
      by_cases e : i = k
      · subst e; exact hs
      · exact HSM.out i h h2 (by omega)
    obtain ⟨b1, o1, hAe, _, _, hx⟩ := ((HA.out.fresh HBr.out).1).cell_ hka
    cases hAe
    obtain ⟨b2, o2, hBe, _, _, hy⟩ := ((HB.out.fresh HBr.out).1).cell_ hkb
    cases hBe
    have hev := fun (wz : World) (hz : Below wr.heap.size wr wz) => rsame_any wz (fun b => b < w.heap.size) (fun b => b < w.heap.size) la[k] lb[k] (((HA.out.fresh HBr.out).2 _ (List.getElem_mem hka)).1.fresh hz) (((HB.out.fresh HBr.out).2 _ (List.getElem_mem hkb)).1.fresh hz)
    obtain ⟨R, hR⟩ : ∃ R, sameEnt la[k] lb[k] = R := ⟨_, rfl⟩
    rw [hR] at hev hmore
    have hno : R = false → agreeN la lb = k := fun e => hag (.inr (.inr ⟨hka, hkb, by rw [hR, e]⟩))
    obtain ⟨x, hx0⟩ : ∃ x, la[k] = x := ⟨_, rfl⟩
    obtain ⟨y, hy0⟩ : ∃ y, lb[k] = y := ⟨_, rfl⟩
    rw [hx0] at hx hev
    rw [hy0] at hy hev
    have x0 := hx 0 _ rfl
    have x1 := hx 1 _ rfl
    have x2 := hx 2 _ rfl
    have x3 := hx 3 _ rfl
    have x4 := hx 4 _ rfl
    have x5 := hx 5 _ rfl
    have x6 := hx 6 _ rfl
    have y0 := hy 0 _ rfl
    have y1 := hy 1 _ rfl
    have y2 := hy 2 _ rfl
    have y3 := hy 3 _ rfl
    have y4 := hy 4 _ rfl
    have y5 := hy 5 _ rfl
    have y6 := hy 6 _ rfl
    simp only [Nat.add_zero] at x0 y0
    have HEV := Lib.hid hev
    have HNO := Lib.hid hno
    have HMO := Lib.hid hmore
    have hk0 : (0 : Int) ≤ (k : Int) := by omega
    have hk1 : (k : Int) < (n : Int) := by omega
    have hk2 : (k : Int) < (m : Int) := by omega
    clear hx hy hev hno hmore hag hR hx0 hy0
    go_upto_region 2 with (fail)
    refine region_mid 16 rfl (by kernel_rfl) (by kernel_rfl) ?_
    simp only [List.take_succ_cons, List.take_zero, List.drop_succ_cons, List.drop_zero]
    change wpStill _ _ wr.drew _ _ _
    refine still_of_quiet ?_
    repeat (go_big_quiet_step (fail))
    refine wpQuiet_nil ?_
    change wpList _ _ _ _ _ wr.drew
    go_wp2_with fail
    refine (HEV.out _ (show Below wr.heap.size wr wr.drew from ⟨rfl, rfl, rfl, Nat.le_refl _, fun _ _ => rfl⟩)).mono ?_
    rintro e wz ⟨rfl, hBz⟩
    have hBz : Below wr.heap.size wr wz := ⟨hBz.os, hBz.tape, hBz.output, hBz.size, hBz.block⟩
    have HBz := Lib.hid (HBr.out.trans (hBz.mono HBr.out.size))
    clear hBz x0 x1 x2 x3 x4 x5 x6 y0 y1 y2 y3 y4 y5 y6
    go_wp2_with fail
    unfold Go.Bl.Rest
    refine still_of_quiet ?_
    repeat (go_big_quiet_step (fail))
    refine wpQuiet_nil ?_
    cases R
    · have HNO2 := Lib.hid (HNO.out rfl)
      clear HNO
      go_wp2_with fail
      go_ret
      exact ⟨by rw [HNO2.out]; rfl, HBz.out⟩
    · have HMO2 := Lib.hid (HMO.out rfl)
      clear HMO
      go_wp2_with fail
      go_roundw
      case rel => exact ⟨k + 1, hlt, hlt2, by go_num, HMO2.out, HBz.out⟩
      case measure => simp [RowKit.intOf]; omega
set_option maxRecDepth 10000 in
set_option maxHeartbeats 4000000 in
theorem dagree_any : Calls Tryz.prog 23 #[va, vb] w fun e w' => e = .returned (.int .i64 (agreeN la lb)) ∧ Below w.heap.size w w' := by
  obtain ⟨A, c, rfl, hA1, hA2⟩ := ha.1.shape
  obtain ⟨B, d, rfl, hB1, hB2⟩ := hb.1.shape
  unfold maxLen at hA2 hB2
  have HA := Lib.hid ha
  have HB := Lib.hid hb
  obtain ⟨n, hn⟩ : ∃ n, la.length = n := ⟨_, rfl⟩
  obtain ⟨m, hm⟩ : ∃ m, lb.length = m := ⟨_, rfl⟩
  have HN := Lib.hid hn
  have HM := Lib.hid hm
  rw [hn] at hA1 HA hna ⊢
  rw [hm] at hB1 HB ⊢
  clear ha hb hn hm
  go_enter Tryz.func23, Tryz.ntmps23
  go_wp2_with fail
  go_loopw [5] (fun i wr => ∃ k : Nat, k ≤ n ∧ k ≤ m ∧ i = .int .i64 k ∧ (∀ i (h : i < la.length) (h2 : i < lb.length), i < k → sameEnt la[i] lb[i] = true) ∧ Below w.heap.size w wr) (fun i _ => n - (RowKit.intOf i).toNat)
  case atStart => exact ⟨0, Nat.zero_le _, Nat.zero_le _, rfl, fun _ _ _ h => by omega, Below.refl _ _⟩
  case round =>
    rename World => wr
    obtain ⟨k, hk, hk2, rfl, hsm, hBr⟩ := hrel
    have HSM := Lib.hid hsm
    have HBr := Lib.hid hBr
    clear hsm hBr
    by_cases hlt : k < n
    case neg =>
      have hkn : k = n := by omega
      have HF : Hid (agreeN la lb = k) := Lib.hid (agreeN_of HSM.out (by rw [HN.out]; omega) (by rw [HM.out]; omega) (.inl (by rw [HN.out]; exact hkn)))
      have d1 : decide ((k : Int) < (n : Int)) = false := decide_eq_false (by omega)
      have d2 : decide ((k : Int) < gmin (n : Int) (m : Int)) = false := decide_eq_false (by unfold gmin; omega)
      clear hkn
      go_wp2_with fail
      go_quiet (fail)
      go_wp2_with fail
      go_ret
      exact ⟨by rw [HF.out]; rfl, HBr.out.trans ((show Below wr.heap.size wr (wr.drewN _) from ⟨rfl, rfl, rfl, Nat.le_refl _, fun _ _ => rfl⟩).mono HBr.out.size)⟩
    by_cases hlt2 : k < m
    case neg =>
      have hkn : k = m := by omega
      have HF : Hid (agreeN la lb = k) := Lib.hid (agreeN_of HSM.out (by rw [HN.out]; omega) (by rw [HM.out]; omega) (.inr (.inl (by rw [HM.out]; exact hkn))))
      have d0 : decide ((k : Int) < (n : Int)) = true := decide_eq_true (by omega)
      have d1 : decide ((k : Int) < (m : Int)) = false := decide_eq_false (by omega)
      have d2 : decide ((k : Int) < gmin (n : Int) (m : Int)) = false := decide_eq_false (by unfold gmin; omega)
      clear hkn
      go_wp2_with fail
      go_quiet (fail)
      go_wp2_with fail
      go_ret
      exact ⟨by rw [HF.out]; rfl, HBr.out.trans ((show Below wr.heap.size wr (wr.drewN _) from ⟨rfl, rfl, rfl, Nat.le_refl _, fun _ _ => rfl⟩).mono HBr.out.size)⟩
    have d0 : decide ((k : Int) < (n : Int)) = true := decide_eq_true (by omega)
    have d1 : decide ((k : Int) < (m : Int)) = true := decide_eq_true (by omega)
    have d2 : decide ((k : Int) < gmin (n : Int) (m : Int)) = true := decide_eq_true (by unfold gmin; omega)
    have hka : k < la.length := by rw [HN.out]; exact hlt
    have hkb : k < lb.length := by rw [HM.out]; exact hlt2
    have hag := agreeN_of (la := la) (lb := lb) (k := k) HSM.out (by omega) (by omega)
    have hmore : sameEnt la[k] lb[k] = true → ∀ i (h : i < la.length) (h2 : i < lb.length), i < k + 1 → sameEnt la[i] lb[i] = true := fun hs i h h2 hi => by
      by_cases e : i = k
      · subst e; exact hs
      · exact HSM.out i h h2 (by omega)
    obtain ⟨b1, o1, hAe, _, _, hx⟩ := ((HA.out.fresh HBr.out).1).cell_ hka
    cases hAe
    obtain ⟨b2, o2, hBe, _, _, hy⟩ := ((HB.out.fresh HBr.out).1).cell_ hkb
    cases hBe
    have hev := fun (wz : World) (hz : Below wr.heap.size wr wz) => dsame_any wz (fun b => b < w.heap.size) (fun b => b < w.heap.size) la[k] lb[k] (((HA.out.fresh HBr.out).2 _ (List.getElem_mem hka)).1.fresh hz) (((HB.out.fresh HBr.out).2 _ (List.getElem_mem hkb)).1.fresh hz)
    obtain ⟨R, hR⟩ : ∃ R, sameEnt la[k] lb[k] = R := ⟨_, rfl⟩
    rw [hR] at hev hmore
    have hno : R = false → agreeN la lb = k := fun e => hag (.inr (.inr ⟨hka, hkb, by rw [hR, e]⟩))
    obtain ⟨x, hx0⟩ : ∃ x, la[k] = x := ⟨_, rfl⟩
    obtain ⟨y, hy0⟩ : ∃ y, lb[k] = y := ⟨_, rfl⟩
    rw [hx0] at hx hev
    rw [hy0] at hy hev
    have x0 := hx 0 _ rfl
    have x1 := hx 1 _ rfl
    have x2 := hx 2 _ rfl
    have x3 := hx 3 _ rfl
    have x4 := hx 4 _ rfl
    have x5 := hx 5 _ rfl
    have x6 := hx 6 _ rfl
    have y0 := hy 0 _ rfl
    have y1 := hy 1 _ rfl
    have y2 := hy 2 _ rfl
    have y3 := hy 3 _ rfl
    have y4 := hy 4 _ rfl
    have y5 := hy 5 _ rfl
    have y6 := hy 6 _ rfl
    simp only [Nat.add_zero] at x0 y0
    have HEV := Lib.hid hev
    have HNO := Lib.hid hno
    have HMO := Lib.hid hmore
    have hk0 : (0 : Int) ≤ (k : Int) := by omega
    have hk1 : (k : Int) < (n : Int) := by omega
    have hk2 : (k : Int) < (m : Int) := by omega
    clear hx hy hev hno hmore hag hR hx0 hy0
    go_upto_region 2 with (fail)
    refine region_mid 19 rfl (by kernel_rfl) (by kernel_rfl) ?_
    simp only [List.take_succ_cons, List.take_zero, List.drop_succ_cons, List.drop_zero]
    change wpStill _ _ wr.drew _ _ _
    refine still_of_quiet ?_
    repeat (go_big_quiet_step (fail))
    refine wpQuiet_nil ?_
    change wpList _ _ _ _ _ wr.drew
    go_wp2_with fail
    refine (HEV.out _ (show Below wr.heap.size wr wr.drew from ⟨rfl, rfl, rfl, Nat.le_refl _, fun _ _ => rfl⟩)).mono ?_
    rintro e wz ⟨rfl, hBz⟩
    have hBz : Below wr.heap.size wr wz := ⟨hBz.os, hBz.tape, hBz.output, hBz.size, hBz.block⟩
    have HBz := Lib.hid (HBr.out.trans (hBz.mono HBr.out.size))
    clear hBz x0 x1 x2 x3 x4 x5 x6 y0 y1 y2 y3 y4 y5 y6
    go_wp2_with fail
    unfold Go.Bl.Rest
    refine still_of_quiet ?_
    repeat (go_big_quiet_step (fail))
    refine wpQuiet_nil ?_
    cases R
    · have HNO2 := Lib.hid (HNO.out rfl)
      clear HNO
      go_wp2_with fail
      go_ret
      exact ⟨by rw [HNO2.out]; rfl, HBz.out⟩
    · have HMO2 := Lib.hid (HMO.out rfl)
      clear HMO
      go_wp2_with fail
      go_roundw
      case rel => exact ⟨k + 1, hlt, hlt2, by go_num, HMO2.out, HBz.out⟩
      case measure => simp [RowKit.intOf]; omega
end
end Go.Proofs.YthdcnknjjbdefaaGreatDoor.His

namespace Go.Proofs.YthdcnknjjbdefaaGreatDoor.His
open Go.RowKit Go.Bl
attribute [local go_sem ↓] Go.wp_at_zero Go.wp_at_succ

/-- Raw ops that lie there. -/
def RawsOk (w : World) (v : Value) (raws : List Rw) : Prop := Sl w (fun b => b < w.heap.size) 7 rwc v raws ∧ ∀ r ∈ raws, RwOk r
theorem RawsOk.grow {w w' : World} {v : Value} {raws : List Rw} (h : RawsOk w v raws) (hB : Below w.heap.size w w') : RawsOk w' v raws := ⟨(h.1.fresh hB).mono (fun _ hb _ => hb), h.2⟩
def wantB (n : Nat) (o : Hop) : Bool := decide (o.kind = 1) && (decide (0 ≤ o.end_) && (decide (o.out.code = 1) && decide ((n : Int) < o.out.pos)))
def wantN (n : Nat) (ops : List Hop) : Nat := (ops.filter (wantB n)).length
theorem wantN_push (n : Nat) (ops : List Hop) (o : Hop) : wantN n (ops ++ [o]) = wantN n ops + if wantB n o = true then 1 else 0 := by
  unfold wantN
  rw [List.filter_append, List.length_append]
  congr 1
  cases h : wantB n o <;> simp [h]
def off3 (r : Rw) : Rw := { r with off := 3 }
theorem want_lost {w2 wr : World} {log : List Ent} {raws : List Rw} {u : Value} {R : List OpS} {k : Nat} (hl : LogOk log) (h : OpsK w2 log off3 raws u R k wr) (hk : k ≤ raws.length) (n : Nat) : lostN (log.take n) (R.map OpS.val) = wantN n (R.map OpS.val) := by
  unfold lostN wantN
  congr 1
  refine List.filter_congr fun o ho => ?_
  obtain ⟨x, hx, rfl⟩ := List.mem_map.1 ho
  obtain ⟨j, hj, rfl⟩ := List.mem_iff_getElem.1 hx
  have := (h.is j hj (by have := h.len; omega)).lost hl (by show pickOf 3 8 = 3; decide) n
  rw [this]
  rfl
theorem sameEnt_self (a : Ent) : sameEnt a a = true := sameEnt_yes ⟨rfl, rfl, rfl, rfl, rfl, rfl, rfl⟩
theorem agree_self (l : List Ent) : agreeN l l = l.length := agreeN_of (fun _ _ _ _ => sameEnt_self _) (Nat.le_refl _) (Nat.le_refl _) (.inl rfl)
/-- A log of which one entry has another epoch. -/
theorem agree_other {l : List Ent} {n : Nat} (hn : n ≤ l.length) (he : ∀ e ∈ l, e.epoch = 1) : agreeN l (if h : n < l.length then l.set n { l[n] with epoch := 2 } else l) = n ∧ agreeN (if h : n < l.length then l.set n { l[n] with epoch := 2 } else l) l = n := by
  by_cases h : n < l.length
  · rw [dif_pos h]
    have hne : ¬ (l[n].epoch = 2) := by have := he l[n] (List.getElem_mem h); omega
    constructor
    · refine agreeN_of (fun i h1 h2 hi => ?_) hn (by simpa using hn) (.inr (.inr ⟨h, by simpa using h, ?_⟩))
      · rw [List.getElem_set_ne (by omega)]
        exact sameEnt_self _
      · rw [List.getElem_set_self]
        exact sameEnt_no fun hs => hne hs.2.1
    · refine agreeN_of (fun i h1 h2 hi => ?_) (by simpa using hn) hn (.inr (.inr ⟨by simpa using h, h, ?_⟩))
      · rw [List.getElem_set_ne (by omega)]
        exact sameEnt_self _
      · rw [List.getElem_set_self]
        exact sameEnt_no fun hs => hne hs.2.1.symm
  · rw [dif_neg h]
    have : n = l.length := by omega
    rw [this]
    exact ⟨agree_self l, agree_self l⟩
theorem lift_log {w : World} {v : Value} {log : List Ent} (h : LogIn w v log) : ∃ L : List EntS, L.map EntS.val = log ∧ Sl w (fun b => b < w.heap.size) 7 ensc v L := by
  have hlift : ∀ l : List Ent, (∀ a ∈ l, a.evv.oneCell' = true) → ∃ L : List EntS, L.map EntS.val = l := by
    intro l
    induction l with
    | nil => intro _; exact ⟨[], rfl⟩
    | cons a l ih =>
      intro h
      obtain ⟨L, hL⟩ := ih (fun b hb => h b (List.mem_cons_of_mem _ hb))
      exact ⟨⟨a, h a List.mem_cons_self⟩ :: L, by rw [List.map_cons, hL]⟩
  obtain ⟨L, hL⟩ := hlift log fun a ha => by
    obtain ⟨A, c, e, _, _⟩ := (h.ents.2 a ha).1.shape
    rw [e]; rfl
  refine ⟨L, hL, ?_⟩
  obtain ⟨A, c, h1, h2, h3, h4⟩ := h.ents.1
  rw [← hL, List.length_map] at h1 h2
  refine ⟨A, c, h1, h2, h3, fun h0 => ?_⟩
  obtain ⟨b, o, e1, e2, e3, e4⟩ := h4 (by rw [← hL, List.length_map]; exact h0)
  refine ⟨b, o, e1, e2, e3, fun i hi j u hu => ?_⟩
  have hi' : i < log.length := by rw [← hL, List.length_map]; exact hi
  refine e4 i hi' j u ?_
  have : log[i] = L[i].val := by
    have := List.getElem_map (l := L) EntS.val (i := i) (h := by simpa using hi)
    rw [← this]
    congr 1
    exact hL.symm
  rw [this]
  exact hu
def othL (log : List Ent) (q : Nat) : List Ent := if h : q < log.length then log.set q { log[q] with epoch := 2 } else log
theorem oth_len (log : List Ent) (q : Nat) : (othL log q).length = log.length := by unfold othL; split <;> simp
theorem oth_mem {log : List Ent} {q : Nat} {a : Ent} (h : a ∈ othL log q) : ∃ b ∈ log, a.pos = b.pos ∧ a.stream = b.stream ∧ a.evv = b.evv ∧ a.evs = b.evs := by
  unfold othL at h
  split at h
  · rename_i hq
    rcases List.mem_or_eq_of_mem_set h with h | h
    · exact ⟨a, h, rfl, rfl, rfl, rfl⟩
    · exact ⟨log[q], List.getElem_mem hq, by rw [h], by rw [h], by rw [h], by rw [h]⟩
  · exact ⟨a, h, rfl, rfl, rfl, rfl⟩
theorem oth_ents {w w' : World} {v v' : Value} {log : List Ent} {q : Nat} (h : LogIn w v log) (hB : Below w.heap.size w w') (hs : Sl w' (fun b => b < w'.heap.size) 7 entc v' (othL log q)) : EntsOk w' (fun b => b < w'.heap.size) v' (othL log q) := by
  refine ⟨hs, fun a ha => ?_⟩
  obtain ⟨b, hb, e1, e2, e3, e4⟩ := oth_mem ha
  have h0 := (EntsOk.grow h.ents hB).2 b hb
  unfold EntOk at h0 ⊢
  rw [e1, e2, e3, e4]
  exact h0
set_option maxRecDepth 10000 in
set_option maxHeartbeats 8000000 in
theorem lost_law (w : World) (hT : Tabs w) (v : Value) (l : List Ent) (h : EntsOk w (fun b => b < w.heap.size) v l) (vr : Value) (raws : List Rw) (hr : RawsOk w vr raws) (at_ : Int) (hat : -9223372036854775808 ≤ at_ ∧ at_ ≤ 9223372036854775807) :
    Calls Tryz.prog 6 #[v, vr, .int .i64 at_] w fun e w' => e = .returned (.bool true) ∧ Below w.heap.size w w' := by
  obtain ⟨A, c, rfl, hA1, hA2⟩ := h.1.shape
  obtain ⟨B, d, rfl, hB1, hB2⟩ := hr.1.shape
  unfold maxLen at hA2 hB2
  have HT := Lib.hid hT
  have HE := Lib.hid h
  have HR := Lib.hid hr
  obtain ⟨rn, hrn⟩ : ∃ n, raws.length = n := ⟨_, rfl⟩
  have HRN := Lib.hid hrn
  rw [hrn] at hB1 HR ⊢
  clear hT h hr hrn
  go_enter Tryz.func6, Tryz.ntmps6
  go_wp2_with fail
  refine (shown_any w HT.out).mono ?_
  rintro e w1 ⟨rfl, hB1'⟩
  have HB1 := Lib.hid hB1'
  clear hB1'
  go_wp2_with fail
  refine (fits_all w1 _ _ l (HE.out.fresh HB1.out)).mono ?_
  rintro e w2 ⟨rfl, hB2'⟩
  have HB2 := Lib.hid (HB1.out.trans (hB2'.mono HB1.out.size))
  clear hB2'
  cases hfb : fitsB l
  · go_wp2_with fail
    go_ret
    exact ⟨rfl, HB2.out⟩
  have HFB := Lib.hid hfb
  clear hfb
  by_cases h20 : 20 < rn
  · have d1 : decide ((20 : Int) < (rn : Int)) = true := decide_eq_true (by omega)
    have d1' : decide ((rn : Int) > 20) = true := decide_eq_true (by omega)
    go_wp2_with fail
    go_ret
    exact ⟨rfl, HB2.out⟩
  have d1 : decide ((20 : Int) < (rn : Int)) = false := decide_eq_false (by omega)
  have d1' : decide ((rn : Int) > 20) = false := decide_eq_false (by omega)
  go_wp2_with fail
  refine (row_any w2 _ l (EntsOk.grow HE.out HB2.out) HFB.out).mono ?_
  rintro e w3 ⟨vg, rfl, hlog, hB3⟩
  obtain ⟨hok, hl6⟩ := rowL_ok l
  have hep := row_epoch l
  obtain ⟨log, hloge⟩ : ∃ log, rowL l = log := ⟨_, rfl⟩
  rw [hloge] at hlog hok hl6 hep
  obtain ⟨D, ld, rfl, hD1, hD2⟩ := hlog.ents.1.shape
  unfold maxLen at hD2
  obtain ⟨n, hn⟩ : ∃ n, log.length = n := ⟨_, rfl⟩
  have HN := Lib.hid hn
  rw [hn] at hlog hl6 hD1 ⊢
  have HLOG := Lib.hid hlog
  have HOK := Lib.hid hok
  have HEP := Lib.hid hep
  have HB3 := Lib.hid (HB2.out.trans (hB3.mono HB2.out.size))
  have hpk := pickO_any w3 at_ hat (n + 1) (by omega) (by omega)
  have hcast : ((n + 1 : Nat) : Int) = (n : Int) + 1 := by omega
  obtain ⟨q, hq⟩ : ∃ q : Nat, pickOf at_ ((n : Int) + 1) = q := ⟨(pickOf at_ ((n : Int) + 1)).toNat, by have := pickOf_range at_ (n := (n : Int) + 1) (by omega); omega⟩
  have hqn : q ≤ n := by have := pickOf_range at_ (n := (n : Int) + 1) (by omega); omega
  rw [hcast, hq] at hpk
  have HPK := Lib.hid hpk
  clear hloge hlog hok hep hn hB3 hpk hcast hq
  go_wp2_with fail
  refine HPK.out.mono ?_
  rintro e w4 ⟨rfl, rfl⟩
  clear HPK
  have HK0 := Lib.hid (OpsK.start w3 log off3 raws)
  go_wp2_with fail
  go_loopw [11, 12, 13] (fun u c i wr => ∃ (k : Nat) (R : List OpS), k ≤ rn ∧ i = .int .i64 k ∧ c = .int .i64 (wantN q (R.map OpS.val)) ∧ OpsK w3 log off3 raws u R k wr) (fun _ _ i _ => rn - (RowKit.intOf i).toNat)
  case atStart => exact ⟨0, [], Nat.zero_le _, rfl, rfl, HK0.out⟩
  case round =>
    rename World => wr
    obtain ⟨k, R, hk, rfl, rfl, hK⟩ := hrel
    have HK := Lib.hid hK
    obtain ⟨Au, cu, hu, hu1, hu2⟩ := hK.own.shape_ (n := k) hK.len
    unfold maxLen at hu2
    subst hu
    clear hK
    obtain ⟨N, hN⟩ : ∃ N, wantN q (R.map OpS.val) = N := ⟨_, rfl⟩
    rw [hN]
    have HNN := Lib.hid hN
    have hNk : N ≤ k := by rw [← hN]; unfold wantN; exact Nat.le_trans (List.length_filter_le _ _) (by rw [List.length_map, HK.out.len]; exact Nat.le_refl _)
    clear hN
    by_cases hlt : k < rn
    · have hkl : k < raws.length := by rw [HRN.out]; exact hlt
      have hSr := (HR.out.grow HB3.out).grow HK.out.bel
      obtain ⟨b0, o0, hAe, _, _, hx⟩ := hSr.1.cell_ hkl
      have hrw := hSr.2 _ (List.getElem_mem hkl)
      obtain ⟨r, hre⟩ : ∃ r, raws[k] = r := ⟨_, rfl⟩
      rw [hre] at hx hrw
      cases hAe
      have x0 := hx 0 _ rfl
      have x1 := hx 1 _ rfl
      have x2 := hx 2 _ rfl
      have x3 := hx 3 _ rfl
      have x4 := hx 4 _ rfl
      have x5 := hx 5 _ rfl
      have x6 := hx 6 _ rfl
      simp only [Nat.add_zero] at x0
      have HRE := Lib.hid hre
      have HRW := Lib.hid hrw
      have hk0 : (0 : Int) ≤ (k : Int) := by omega
      have hk1 : (k : Int) < (rn : Int) := by omega
      clear hSr hx hre hrw
      by_cases hlong : 100 < r.stream.size
      · have d2 : decide ((100 : Int) < (r.stream.size : Int)) = true := decide_eq_true (by omega)
        have d2' : decide ((r.stream.size : Int) > 100) = true := decide_eq_true (by omega)
        go_wp2_with fail
        go_ret
        exact ⟨rfl, HB3.out.trans (HK.out.bel.mono HB3.out.size)⟩
      have d2 : decide ((100 : Int) < (r.stream.size : Int)) = false := decide_eq_false (by omega)
      have d2' : decide ((r.stream.size : Int) > 100) = false := decide_eq_false (by omega)
      have hBa := (Below.refl wr.heap.size wr).alloc (Nat.le_refl _) (.cells #[.int .i64 r.start, .int .i64 r.long, .int .i64 r.at_, .int .i64 r.off, .bool r.read, .string r.stream, .int .i64 r.from_] 39)
      have hga := heap_alloc_new wr (.cells #[.int .i64 r.start, .int .i64 r.long, .int .i64 r.at_, .int .i64 r.off, .bool r.read, .string r.stream, .int .i64 r.from_] 39)
      go_upto_region 15 with (fail)
      obtain ⟨ga, hgae⟩ : ∃ g, wr.heap.size = g := ⟨_, rfl⟩
      rw [hgae] at hga ⊢
      generalize wr.alloc (.cells #[.int .i64 r.start, .int .i64 r.long, .int .i64 r.at_, .int .i64 r.off, .bool r.read, .string r.stream, .int .i64 r.from_] 39) = wa at hBa hga ⊢
      have y3 : wa.cell? ⟨ga, 3, none⟩ = some (.int .i64 r.off) := cell_of_row wa ga 3 _ _ _ hga
      have f3 : wa.frozen? ⟨ga, 3, none⟩ = false := frozen_block hga 3
      have hgb : (wa.setCell ⟨ga, 3, none⟩ (.int .i64 3)).heap[ga]? = some (.cells #[.int .i64 r.start, .int .i64 r.long, .int .i64 r.at_, .int .i64 3, .bool r.read, .string r.stream, .int .i64 r.from_] 39 (0, 0)) := setCell_block' (o := 3) hga _
      have hBb : Below wr.heap.size wr (wa.setCell ⟨ga, 3, none⟩ (.int .i64 3)) := Go.Bl.Below.keep hBa (one_set wa ga 3 (.int .i64 3)) hBa.size (fun x hx => by have hx : x = ga := hx; omega)
      clear hBa hga x0 x1 x2 x3 x4 x5 x6
      go_upto_region 16 with (fail)
      generalize wa.setCell ⟨ga, 3, none⟩ (.int .i64 3) = wb at hgb hBb ⊢
      have HBb := Lib.hid hBb
      have z0 : wb.cell? ⟨ga, 0, none⟩ = some (.int .i64 r.start) := cell_of_row wb ga 0 _ _ _ hgb
      have z1 : wb.cell? ⟨ga, 1, none⟩ = some (.int .i64 r.long) := cell_of_row wb ga 1 _ _ _ hgb
      have z2 : wb.cell? ⟨ga, 2, none⟩ = some (.int .i64 r.at_) := cell_of_row wb ga 2 _ _ _ hgb
      have z3 : wb.cell? ⟨ga, 3, none⟩ = some (.int .i64 3) := cell_of_row wb ga 3 _ _ _ hgb
      have z4 : wb.cell? ⟨ga, 4, none⟩ = some (.bool r.read) := cell_of_row wb ga 4 _ _ _ hgb
      have z5 : wb.cell? ⟨ga, 5, none⟩ = some (.string r.stream) := cell_of_row wb ga 5 _ _ _ hgb
      have z6 : wb.cell? ⟨ga, 6, none⟩ = some (.int .i64 r.from_) := cell_of_row wb ga 6 _ _ _ hgb
      have hop := op_any wb (.slice D n ld) log ((HLOG.out.fresh HK.out.bel).fresh hBb) HOK.out (by rw [HN.out]; exact hl6) (off3 r) ⟨HRW.out.start, HRW.out.long, HRW.out.at_, by show -9223372036854775808 ≤ (3 : Int) ∧ (3 : Int) ≤ 9223372036854775807; omega⟩ (by show r.stream.size ≤ 100; omega) ((k : Int) + 1)
      have HOP := Lib.hid hop
      clear y3 f3 hgb hBb hop hgae
      go_wp2_with fail
      refine HOP.out.mono ?_
      rintro e w5 ⟨o, rfl, hoi, hoo, hB5⟩
      have hone := opc_one w5 hoo
      have HONE := Lib.hid hone
      have HOI := Lib.hid hoi
      have HOO := Lib.hid hoo
      have HB5 := Lib.hid (HBb.out.trans (hB5.mono HBb.out.size))
      have hBo := (Below.refl w5.heap.size w5).alloc (Nat.le_refl _) (.cells (opc o).toArray 36)
      have hgo := heap_alloc_new w5 (.cells (opc o).toArray 36)
      clear hone hoi hoo hB5 z0 z1 z2 z3 z4 z5 z6 HOP
      go_upto_region 17 with (refine op_store rfl (.tmp 15) (.tmp 61) rfl _ rfl o rfl rfl rfl HONE.out ?_)
      obtain ⟨go, hgoe⟩ : ∃ g, w5.heap.size = g := ⟨_, rfl⟩
      rw [hgoe] at hgo ⊢
      generalize w5.alloc (.cells (opc o).toArray 36) = w6 at hBo hgo ⊢
      have HBO := Lib.hid hBo
      have HGO := Lib.hid hgo
      have HLD := Lib.hid (load_box hgo)
      have HGOE := Lib.hid hgoe
      have HON := Lib.hid ((HK.out.own.fresh (HB5.out.trans (hBo.mono HB5.out.size))).fresh ((Below.refl w6.heap.size w6).alloc (Nat.le_refl _) (.cells (opc o).toArray 36)))
      have HRL := Lib.hid HK.out.len
      have HSZ : Hid (w3.heap.size ≤ (w6.alloc (.cells (opc o).toArray 36)).heap.size) := Lib.hid (by rw [World.size_alloc]; have := HK.out.bel.size; have := HB5.out.size; have := hBo.size; omega)
      clear hBo hgo hgoe
      go_upto_region 18 with (first | (refine op_load rfl (.tmp 15) rfl go 0 rfl o HLD.out ?_) | (refine op_build1 (by rfl) 63 rfl o rfl ?_) | (at_builtin; refine elOps.append _ (by rfl) _ _ rfl w3.heap.size _ R rfl HON.out _ _ [⟨o, HONE.out⟩] rfl (Sl.single (k := 17) (enc := opsc) (x := ⟨o, HONE.out⟩) (heap_alloc_new w6 _) rfl) (by rw [HRL.out, List.length_singleton]; omega) HSZ.out ?_; intro v' w7 hO' hgr hAt))
      have hpush := HK.out.push HB5.out (o := ⟨o, HONE.out⟩) ⟨HOO.out.kind, HOO.out.ev.mono (fun b _ hb => ⟨Nat.le_trans HBb.out.size hb.1, hb.2⟩), HOO.out.bev, HOO.out.st, HOO.out.pos⟩ (fun h2 => by rw [HRE.out]; exact HOI.out)
        (HBO.out.trans (((Below.refl w6.heap.size w6).alloc (Nat.le_refl _) (.cells (opc o).toArray 36)).mono HBO.out.size)) hO' hgr hAt
      have HPU := Lib.hid hpush
      have hk7 := Keeps.of_grown hgr
      have hgo7 := hk7.grownTo ((((Below.refl w6.heap.size w6).alloc (Nat.le_refl _) (.cells (opc o).toArray 36)).block go (Array.getElem?_eq_some_iff.1 HGO.out).1).trans HGO.out) (fun e => by have := (HK.out.own.lt go e).2; have := HB5.out.size; have := HGOE.out; omega)
      have y0 : w7.cell? ⟨go, 0, none⟩ = some (.int .i64 o.kind) := cell_of_row w7 go 0 _ _ _ hgo7
      have y3 : w7.cell? ⟨go, 3, none⟩ = some (.int .i64 o.end_) := cell_of_row w7 go 3 _ _ _ hgo7
      have y9 : w7.cell? ⟨go, 9, none⟩ = some (.int .i64 o.out.code) := cell_of_row w7 go 9 _ _ _ hgo7
      have y10 : w7.cell? ⟨go, 10, none⟩ = some (.int .i64 o.out.pos) := cell_of_row w7 go 10 _ _ _ hgo7
      have hwn := wantN_push q (R.map OpS.val) o
      have hmp : (R ++ [(⟨o, HONE.out⟩ : OpS)]).map OpS.val = R.map OpS.val ++ [o] := by rw [List.map_append]; rfl
      rw [← hmp, HNN.out] at hwn
      have HWN := Lib.hid hwn
      clear hpush hk7 hgo7 hwn hmp hO' hgr hAt
      by_cases h1 : o.kind = 1
      case neg =>
        have e1 : (o.kind == 1) = false := by simpa using h1
        have HW2 : Hid (wantN q ((R ++ [(⟨o, HONE.out⟩ : OpS)]).map OpS.val) = N) := Lib.hid (by rw [HWN.out, if_neg (by simp [wantB, h1]), Nat.add_zero])
        clear h1
        go_wp2_with fail
        go_roundw
        case rel => exact ⟨k + 1, _, hlt, by go_num, by rw [HW2.out], HPU.out⟩
        case measure => simp [RowKit.intOf]; omega
      have e1 : (o.kind == 1) = true := by simpa using h1
      by_cases h2 : 0 ≤ o.end_
      case neg =>
        have e2 : decide (0 ≤ o.end_) = false := decide_eq_false h2
        have e2' : decide (o.end_ ≥ 0) = false := decide_eq_false h2
        have HW2 : Hid (wantN q ((R ++ [(⟨o, HONE.out⟩ : OpS)]).map OpS.val) = N) := Lib.hid (by rw [HWN.out, if_neg (by simp [wantB, h2]), Nat.add_zero])
        clear h1
        go_wp2_with fail
        go_roundw
        case rel => exact ⟨k + 1, _, hlt, by go_num, by rw [HW2.out], HPU.out⟩
        case measure => simp [RowKit.intOf]; omega
      have e2 : decide (0 ≤ o.end_) = true := decide_eq_true h2
      have e2' : decide (o.end_ ≥ 0) = true := decide_eq_true h2
      by_cases h3 : o.out.code = 1
      case neg =>
        have e3 : (o.out.code == 1) = false := by simpa using h3
        have HW2 : Hid (wantN q ((R ++ [(⟨o, HONE.out⟩ : OpS)]).map OpS.val) = N) := Lib.hid (by rw [HWN.out, if_neg (by simp [wantB, h3]), Nat.add_zero])
        clear h1 h3
        go_wp2_with fail
        go_roundw
        case rel => exact ⟨k + 1, _, hlt, by go_num, by rw [HW2.out], HPU.out⟩
        case measure => simp [RowKit.intOf]; omega
      have e3 : (o.out.code == 1) = true := by simpa using h3
      by_cases h4 : (q : Int) < o.out.pos
      · have e4 : decide ((q : Int) < o.out.pos) = true := decide_eq_true h4
        have e4' : decide (o.out.pos > (q : Int)) = true := decide_eq_true h4
        have HW2 : Hid (wantN q ((R ++ [(⟨o, HONE.out⟩ : OpS)]).map OpS.val) = N + 1) := Lib.hid (by rw [HWN.out, if_pos (by simp [wantB, h1, h2, h3, h4])])
        clear h1 h3
        go_wp2_with fail
        go_roundw
        case rel => exact ⟨k + 1, _, hlt, by go_num, by rw [HW2.out]; go_num, HPU.out⟩
        case measure => simp [RowKit.intOf]; omega
      · have e4 : decide ((q : Int) < o.out.pos) = false := decide_eq_false h4
        have e4' : decide (o.out.pos > (q : Int)) = false := decide_eq_false h4
        have HW2 : Hid (wantN q ((R ++ [(⟨o, HONE.out⟩ : OpS)]).map OpS.val) = N) := Lib.hid (by rw [HWN.out, if_neg (by simp [wantB, h4]), Nat.add_zero])
        clear h1 h3
        go_wp2_with fail
        go_roundw
        case rel => exact ⟨k + 1, _, hlt, by go_num, by rw [HW2.out], HPU.out⟩
        case measure => simp [RowKit.intOf]; omega
    · have hkn : k = rn := by omega
      subst hkn
      have hcount := want_lost HOK.out HK.out (by rw [HRN.out]; exact Nat.le_refl _) q
      rw [HNN.out] at hcount
      have HCO := Lib.hid hcount
      have HSL := Lib.hid HK.out.sl
      have HOKS := Lib.hid HK.out.oks
      have HRL := Lib.hid HK.out.len
      have hlog := HLOG.out.fresh HK.out.bel
      have HLG := Lib.hid hlog
      clear hcount hlog
      obtain ⟨L, hL1, hL2⟩ := lift_log HLG.out
      have hLn : L.length = n := by rw [← HN.out, ← hL1, List.length_map]
      have HL1 := Lib.hid hL1
      have HL2 := Lib.hid (hL2.fresh ((Below.refl wr.heap.size wr).alloc (Nat.le_refl _) (.cells #[] 55)))
      have HLN := Lib.hid hLn
      have HMD := Lib.hid (Go.Bl.Own.made (α := EntS) wr (base := wr.heap.size) (Nat.le_refl _) 55 7 ensc)
      have HWS : Hid (wr.heap.size ≤ (wr.alloc (.cells #[] 55)).heap.size) := Lib.hid (by rw [World.size_alloc]; omega)
      clear hL1 hL2 hLn
      go_upto_region 21 with (at_builtin; refine elEns.append _ (by rfl) _ _ rfl wr.heap.size _ [] rfl HMD.out _ _ L rfl HL2.out (by rw [HLN.out, List.length_nil]; omega) HWS.out ?_; intro v' w5 hO' hgr hAt)
      rw [List.nil_append] at hO'
      have hB5 : Below wr.heap.size wr w5 := Go.Bl.Below.keep ((Below.refl wr.heap.size wr).alloc (Nat.le_refl _) (.cells #[] 55)) (Keeps.of_grown hgr) HWS.out (fun x hx => by cases hx; exact Nat.le_refl _)
      obtain ⟨Z, zc, hz, hz1, hz2⟩ := hO'.shape_ (n := n) HLN.out
      subst hz
      unfold maxLen at hz2
      have HO5 := Lib.hid hO'
      have HB5 := Lib.hid hB5
      clear hO' hgr hAt hB5
      go_upto_if 95 with (fail)
      go_cut [] (fun wx => Below wr.heap.size wr wx ∧ Sl wx (fun b => b < wx.heap.size) 7 entc (.slice Z n zc) (othL log q))
      case first =>
        by_cases hqn2 : q < n
        · have d3 : decide ((q : Int) < (n : Int)) = true := decide_eq_true (by omega)
          have hqL : q < L.length := by rw [HLN.out]; exact hqn2
          obtain ⟨gz, oz, hZ, hgz, hgl, hxz⟩ := (HO5.out.sl elEns.len).cell_ hqL
          have hoz : oz = 0 ∧ wr.heap.size ≤ gz := by
            rcases HO5.out.2 with ⟨e, _⟩ | ⟨g, cap, cur, e, e2, _⟩
            · cases e; cases hZ
            · cases e; cases hZ; exact ⟨rfl, e2⟩
          obtain ⟨rfl, hgw⟩ := hoz
          subst hZ
          have hset := Go.Bl.Own.set HO5.out elEns.len hqL (j := 1) (by decide) (x := ⟨{ L[q].val with epoch := 2 }, L[q].one⟩) (u := .int .i64 2) rfl
          have y1 : w5.cell? ⟨gz, q * 7 + 1, none⟩ = some (.int .i64 L[q].val.epoch) := by have := hxz 1 _ rfl; rw [Nat.zero_add] at this; exact this
          have f1 : w5.frozen? ⟨gz, q * 7 + 1, none⟩ = false := by
            rcases HO5.out.2 with ⟨e, _⟩ | ⟨g, cap, cur, e, _, e3, _⟩
            · cases e
            · cases e; exact frozen_block e3 _
          have hfin : Sl (w5.setCell ⟨gz, q * 7 + 1, none⟩ (.int .i64 2)) (fun b => b < (w5.setCell ⟨gz, q * 7 + 1, none⟩ (.int .i64 2)).heap.size) 7 entc (.slice (some ⟨gz, 0, none⟩) n zc) (othL log q) := by
            have h1 := sl_val ((hset.sl elEns.len).bound)
            have h2 : (L.set q ⟨{ L[q].val with epoch := 2 }, L[q].one⟩).map EntS.val = othL log q := by
              unfold othL
              rw [dif_pos (by rw [HN.out]; exact hqn2), List.map_set]
              have e1 : log[q]'(by rw [HN.out]; exact hqn2) = L[q].val := by
                have := List.getElem_map (l := L) EntS.val (i := q) (h := by simpa using hqL)
                rw [← this]
                congr 1
                exact HL1.out.symm
              rw [e1, HL1.out]
            rw [h2] at h1
            exact h1.mono (fun b _ hb => hb.2)
          have HX := Lib.hid (And.intro (Go.Bl.Below.keep HB5.out (one_set w5 gz (q * 7 + 1) (.int .i64 2)) HB5.out.size (fun x hx => by have hx : x = gz := hx; omega)) hfin)
          have hq0 : (0 : Int) ≤ (q : Int) := by omega
          have hq1 : (q : Int) < (n : Int) := by omega
          clear hset hfin hxz
          go_wp2_with fail
          go_meet
          case rel => exact HX.out
        · have d3 : decide ((q : Int) < (n : Int)) = false := decide_eq_false (by omega)
          have h1 := sl_val ((HO5.out.sl elEns.len).bound)
          have h2 : L.map EntS.val = othL log q := by
            unfold othL
            rw [dif_neg (by rw [HN.out]; exact hqn2), HL1.out]
          rw [h2] at h1
          have HX := Lib.hid (And.intro HB5.out (h1.mono (F' := fun b => b < w5.heap.size) (fun b _ hb => hb.2)))
          clear h1 h2
          go_wp2_with fail
          go_meet
          case rel => exact HX.out
      case rest =>
        obtain ⟨hBc, hSc⟩ := hcut
        have hoth := oth_ents HLG.out hBc hSc
        obtain ⟨ha1, ha2⟩ := agree_other (l := log) (n := q) (by rw [HN.out]; exact hqn) HEP.out
        have hlen := oth_len log q
        have HOTH := Lib.hid hoth
        have HLC := Lib.hid (HLG.out.fresh hBc)
        have HSLC := Lib.hid ((HSL.out.fresh hBc).mono (F' := fun b => b < wc.heap.size) (fun b hb _ => hb))
        have HOKC : Hid (∀ o ∈ R.map OpS.val, OpOk wc (fun b => b < wc.heap.size) o) := Lib.hid fun o ho => by
          have h0 := HOKS.out o ho
          exact ⟨h0.kind, (h0.ev.fresh hBc).mono (fun b hb _ => hb), h0.bev, h0.st, h0.pos⟩
        have HA1 : Hid (agreeN log (othL log q) = q) := Lib.hid ha1
        have HA2 : Hid (agreeN (othL log q) log = q) := Lib.hid ha2
        have HA3 : Hid (agreeN log log = n) := Lib.hid (by rw [agree_self, HN.out])
        have HBC := Lib.hid hBc
        have hcut1 : (Instr.slice 22 (.slice D n ld) none (some (.int .i64 (q : Int))) none).run Tryz.prog wc = .ok (.slice (cutA D ld 0 7) q ld) wc := by
          simpa using run_cut_high (P := Tryz.prog) Tryz.underlying22 Tryz.sizeOf55 D n ld (q : Int) (by omega) (by omega) wc
        have hlost := lost_any wc (.slice (cutA D ld 0 7) q ld) (log.take q) ((HLC.out.take (by rw [HN.out]; exact hqn)).ents) (by rw [List.length_take]; omega) (.slice Au k cu) (R.map OpS.val) HSLC.out HOKC.out (by rw [List.length_map, HRL.out]; omega)
        rw [HCO.out] at hlost
        have HLOST := Lib.hid hlost
        have HLEN := Lib.hid hlen
        clear hBc hSc hoth ha1 ha2 hlen hlost
        go_wp2_with fail
        refine HLOST.out.mono ?_
        rintro e w6 ⟨rfl, hB6⟩
        have HB6 := Lib.hid hB6
        have hag := agree_any w6 (.slice D n ld) (.slice Z n zc) log (othL log q) (EntsOk.grow HLC.out.ents hB6) (EntsOk.grow HOTH.out hB6) (by rw [HN.out]; omega)
        rw [HA1.out] at hag
        have HAG := Lib.hid hag
        clear hB6 hag hcut1
        go_wp2_with fail
        refine HAG.out.mono ?_
        rintro e w7 ⟨rfl, hB7⟩
        have hB7' := HB6.out.trans (hB7.mono HB6.out.size)
        have HB7 := Lib.hid hB7'
        have hag := agree_any w7 (.slice Z n zc) (.slice D n ld) (othL log q) log (EntsOk.grow HOTH.out hB7') (EntsOk.grow HLC.out.ents hB7') (by rw [HLEN.out, HN.out]; omega)
        rw [HA2.out] at hag
        have HAG2 := Lib.hid hag
        clear hB7 hag hB7' HAG
        go_wp2_with fail
        refine HAG2.out.mono ?_
        rintro e w8 ⟨rfl, hB8⟩
        have hB8' := HB7.out.trans (hB8.mono HB7.out.size)
        have HB8 := Lib.hid hB8'
        have hag := agree_any w8 (.slice D n ld) (.slice D n ld) log log (EntsOk.grow HLC.out.ents hB8') (EntsOk.grow HLC.out.ents hB8') (by rw [HN.out]; omega)
        rw [HA3.out] at hag
        have HAG3 := Lib.hid hag
        clear hB8 hag hB8' HAG2
        go_wp2_with fail
        refine HAG3.out.mono ?_
        rintro e w9 ⟨rfl, hB9⟩
        have h1 := HBC.out.trans ((HB8.out.trans (hB9.mono HB8.out.size)).mono HBC.out.size)
        have h2 := HB3.out.trans ((HK.out.bel.trans (h1.mono HK.out.bel.size)).mono HB3.out.size)
        have HFIN := Lib.hid h2
        clear hB9 h1 h2 HAG3
        go_wp2_with fail
        go_ret
        exact ⟨rfl, HFIN.out⟩
end Go.Proofs.YthdcnknjjbdefaaGreatDoor.His
