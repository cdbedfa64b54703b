/- The acts of the master's statements: how they read, small, pick, said. Under the stated premises on sizes. -/
import Derived.Test.YtoegdpcfhmjnaaaGreatDoorMstU
namespace Go.Proofs.YtoegdpcfhmjnaaaGreatDoor
open Go.RowKit Go.Bl
attribute [local go_sem ↓] Go.wp_at_zero Go.wp_at_succ

structure Ac where
  op : Int
  frm : Int
  node : Int
  ep : Int
  n : Int
  text : ByteArray
  kv : Value
  keep : List Int
def acc (a : Ac) : List Value := [.int .i64 a.op, .int .i64 a.frm, .int .i64 a.node, .int .i64 a.ep, .int .i64 a.n, .string a.text, a.kv]
structure AcOk (w : World) (G : Nat → Prop) (a : Ac) : Prop where
  sl : Sl w G 1 intc a.kv a.keep
  op : i64 a.op
  frm : i64 a.frm
  node : i64 a.node
  ep : i64 a.ep
  n : i64 a.n
  text : a.text.size ≤ 140737488355328
/-- v reads as the acts l. -/
def Acts (w : World) (G : Nat → Prop) (v : Value) (l : List Ac) : Prop := Sl w G 7 acc v l ∧ ∀ a ∈ l, AcOk w G a
theorem AcOk.keep {w w' : World} {F G : Nat → Prop} {a : Ac} (h : AcOk w F a) (hk : Keeps G w w') (hd : ∀ k, k < w.heap.size → F k → ¬ G k) : AcOk w' F a := { h with sl := h.sl.keep hk hd }
theorem Acts.keep {w w' : World} {F G : Nat → Prop} {v : Value} {l : List Ac} (h : Acts w F v l) (hk : Keeps G w w') (hd : ∀ k, k < w.heap.size → F k → ¬ G k) : Acts w' F v l :=
  ⟨h.1.keep hk hd, fun a ha => (h.2 a ha).keep hk hd⟩
theorem Acts.fresh {w w' : World} {F : Nat → Prop} {v : Value} {l : List Ac} (h : Acts w F v l) (hB : Below w.heap.size w w') : Acts w' F v l := h.keep (Keeps.of_fresh hB fun _ => False) (fun _ _ _ => id)
def acOk (a : Ac) : Bool := decide (a.text.size ≤ 500) && decide (a.keep.length ≤ 20)
def smallB (l : List Ac) : Bool := decide (l.length ≤ 80) && l.all acOk
theorem acOk_iff {a : Ac} : acOk a = true ↔ a.text.size ≤ 500 ∧ a.keep.length ≤ 20 := by simp [acOk]
theorem all_take_succ {α : Type} {p : α → Bool} {l : List α} {k : Nat} (hk : k < l.length) (h : (l.take k).all p = true) (hp : p l[k] = true) : (l.take (k + 1)).all p = true := by
  rw [List.take_succ_eq_append_getElem hk, List.all_append, h]; simp [hp]
theorem all_false_of {α : Type} {p : α → Bool} {l : List α} {k : Nat} (hk : k < l.length) (hp : p l[k] = false) : l.all p = false := by
  rw [List.all_eq_false]
  exact ⟨l[k], List.getElem_mem hk, by simp [hp]⟩

set_option maxRecDepth 8000 in
set_option maxHeartbeats 1000000 in
theorem small_any (w : World) (G : Nat → Prop) (v : Value) (l : List Ac) (h : Acts w G v l) :
    Calls Tryz.prog 16 #[v] w fun e w' => e = .returned (.bool (smallB l)) ∧ w = w' := by
  obtain ⟨A, c, rfl, hA1, hA2⟩ := h.1.shape
  unfold maxLen at hA2
  have HA := Lib.hid h
  clear h
  by_cases h80 : l.length ≤ 80
  · have d80 : decide ((80 : Int) < (l.length : Int)) = false := by simp; omega
    go_enter Tryz.func16, Tryz.ntmps16
    go_wp2_with fail
    go_loop [3] (fun i => ∃ k : Nat, k ≤ l.length ∧ i = .int .i64 k ∧ (l.take k).all acOk = true) (fun i => l.length - (intOf i).toNat)
    case atStart => exact ⟨0, Nat.zero_le _, rfl, rfl⟩
    case round =>
      obtain ⟨k, hk, rfl, hH'⟩ := hrel
      have hH := Lib.hid hH'
      clear hH'
      by_cases hlt : k < l.length
      · obtain ⟨b, o, rfl, _, _, hxx⟩ := HA.out.1.cell_ hlt
        have hac := HA.out.2 l[k] (List.getElem_mem hlt)
        obtain ⟨B, d, hkk, hB1, hB2⟩ := hac.sl.shape
        have x1 := hxx 5 _ rfl
        have x2 := hxx 6 _ rfl
        rw [hkk] at x2
        unfold maxLen at hB2
        have hts := hac.text
        clear hxx hac hkk
        by_cases t1 : l[k].text.size ≤ 500
        · have d1 : decide ((500 : Int) < (l[k].text.size : Int)) = false := by simp; omega
          by_cases t2 : l[k].keep.length ≤ 20
          · have d2 : decide ((20 : Int) < (l[k].keep.length : Int)) = false := by simp; omega
            go_wp2_with fail
            go_round
            case rel => exact ⟨k + 1, by omega, by go_num, all_take_succ hlt hH.out (acOk_iff.2 ⟨t1, t2⟩)⟩
            case measure => simp [intOf]; omega
          · have d2 : decide ((20 : Int) < (l[k].keep.length : Int)) = true := by simp; omega
            go_wp2_with fail
            go_ret
            have : smallB l = false := by
              simp only [smallB, Bool.and_eq_false_iff]
              exact .inr (all_false_of hlt (by simp [acOk, t2]))
            rw [this]
            exact ⟨rfl, rfl⟩
        · have d1 : decide ((500 : Int) < (l[k].text.size : Int)) = true := by simp; omega
          go_wp2_with fail
          go_ret
          have : smallB l = false := by
            simp only [smallB, Bool.and_eq_false_iff]
            exact .inr (all_false_of hlt (by simp [acOk, t1]))
          rw [this]
          exact ⟨rfl, rfl⟩
      · have hkd : k = l.length := by omega
        subst hkd
        go_wp2_with fail
        go_ret
        have h1 := hH.out
        rw [List.take_of_length_le (Nat.le_refl _)] at h1
        have : smallB l = true := by simp [smallB, h80, h1]
        rw [this]
        exact ⟨rfl, rfl⟩
  · have d80 : decide ((80 : Int) < (l.length : Int)) = true := by simp; omega
    go_enter Tryz.func16, Tryz.ntmps16
    go_wp2_with fail
    go_ret
    have : smallB l = false := by simp [smallB, h80]
    rw [this]
    exact ⟨rfl, rfl⟩
theorem pickB_any (w : World) (c n : Int) (hc : i64 c) (hn : 1 ≤ n ∧ n ≤ 4000000000) : Calls Tryz.prog 17 #[.int .i64 c, .int .i64 n] w fun e w' => e = .returned (.int .i64 (pickOf c n)) ∧ w = w' := by
  obtain ⟨c1, c2⟩ := hc
  obtain ⟨n1, n2⟩ := hn
  unfold pickOf
  by_cases h : c < 0
  · have d1 : decide (c < 0) = true := by simpa using h
    rw [if_pos h]
    have hb1 : 0 ≤ -(c + 1) := by omega
    have hv : -((c + 1).tmod n) = -(c + 1) % n := by rw [← Int.neg_tmod, Int.tmod_eq_emod_of_nonneg hb1]
    rw [← hv]
    clear hv
    go_enter Tryz.func17, Tryz.ntmps17
    go_wp2_with fail
    go_ret
    exact ⟨rfl, rfl⟩
  · have d1 : decide (c < 0) = false := by simpa using h
    rw [if_neg h]
    have hb1 : 0 ≤ c := by omega
    go_enter Tryz.func17, Tryz.ntmps17
    go_wp2_with fail
    go_ret
    exact ⟨rfl, rfl⟩
/-- What an act may say. -/
def SaidM (a : Ac) (x : Value) : Prop := (∃ ne : Int, x = .iface 76 (.agg #[.int .i64 a.node, .int .i64 ne, .int .i64 0])) ∨ x = .iface 48 (.agg #[.int .i64 a.node, .int .i64 a.n]) ∨ x = .iface 37 (.agg #[.int .i64 a.n])
set_option maxRecDepth 8000 in
set_option maxHeartbeats 2000000 in
theorem said_any (w : World) (G : Nat → Prop) (a : Ac) (h : AcOk w G a) (e0 : Int) (he : 1 ≤ e0 ∧ e0 ≤ 1000000000000) (hlt : pickOf a.op 10 < 6) :
    Calls Tryz.prog 20 #[.agg (acc a).toArray, .int .i64 e0] w fun e w' => ∃ (x : Value) (k nn : Int), e = .returned (.tuple #[x, .int .i64 k, .int .i64 nn]) ∧ SaidM a x ∧ Below w.heap.size w w' := by
  obtain ⟨A, ca, hkv, hA1, hA2⟩ := h.sl.shape
  have HPE := Lib.hid (fun W => pickB_any W a.ep 5 h.ep (by omega))
  have HPO := Lib.hid (fun W => pickB_any W a.op 10 h.op (by omega))
  have hpe := pickOf_range a.ep (n := 5) (by omega)
  have hpo := pickOf_range a.op (n := 10) (by omega)
  obtain ⟨E, hE⟩ : ∃ E, pickOf a.ep 5 = E := ⟨_, rfl⟩
  obtain ⟨P, hP⟩ : ∃ P, pickOf a.op 10 = P := ⟨_, rfl⟩
  simp only [hE] at HPE hpe
  simp only [hP] at HPO hpo hlt
  unfold acc
  obtain ⟨op, frm, node, ept, n, text, kv, keep⟩ := a
  simp only at hkv ⊢
  subst hkv
  have htd : 0 ≤ E.tdiv 4 ∧ E.tdiv 4 ≤ 4 := by
    rw [Int.tdiv_eq_ediv_of_nonneg hpe.1]
    omega
  clear h hE hP
  go_enter Tryz.func20, Tryz.ntmps20
  go_upto_region 1 with (fail)
  have hB1 : Below w.heap.size w (w.alloc (.cells #[.int .i64 op, .int .i64 frm, .int .i64 node, .int .i64 ept, .int .i64 n, .string text, .slice A keep.length ca] 57)) := (Below.refl _ w).alloc (Nat.le_refl _) _
  have hk := heap_alloc_new w (.cells #[.int .i64 op, .int .i64 frm, .int .i64 node, .int .i64 ept, .int .i64 n, .string text, .slice A keep.length ca] 57)
  obtain ⟨q, hq⟩ : ∃ q, w.heap.size = q := ⟨_, rfl⟩
  have HB1 := Lib.hid hB1
  rw [hq] at hk ⊢
  generalize w.alloc (.cells #[.int .i64 op, .int .i64 frm, .int .i64 node, .int .i64 ept, .int .i64 n, .string text, .slice A keep.length ca] 57) = w1 at hk HB1 ⊢
  have c0 := cell_of_row w1 q 0 _ _ _ hk
  have c2 := cell_of_row w1 q 2 _ _ _ hk
  have c3 := cell_of_row w1 q 3 _ _ _ hk
  have c4 := cell_of_row w1 q 4 _ _ _ hk
  clear hk hB1 hq
  go_wp2_with fail
  refine (HPE.out w1).mono ?_
  rintro e w2 ⟨rfl, rfl⟩
  go_wp2_with fail
  refine (HPO.out w1).mono ?_
  rintro e w2 ⟨rfl, rfl⟩
  have hc : P = 0 ∨ P = 1 ∨ P = 2 ∨ P = 3 ∨ P = 4 ∨ P = 5 := by omega
  rcases hc with rfl | rfl | rfl | rfl | rfl | rfl
  · go_wp2_with fail
    go_ret3
    exact ⟨_, _, _, rfl, .inl ⟨_, rfl⟩, HB1.out⟩
  · go_wp2_with fail
    go_ret3
    exact ⟨_, _, _, rfl, .inl ⟨_, rfl⟩, HB1.out⟩
  · go_wp2_with fail
    go_ret3
    exact ⟨_, _, _, rfl, .inl ⟨_, rfl⟩, HB1.out⟩
  · go_wp2_with fail
    go_ret3
    exact ⟨_, _, _, rfl, .inl ⟨_, rfl⟩, HB1.out⟩
  · go_wp2_with fail
    go_ret3
    exact ⟨_, _, _, rfl, .inr (.inl rfl), HB1.out⟩
  · go_wp2_with fail
    go_ret3
    exact ⟨_, _, _, rfl, .inr (.inr rfl), HB1.out⟩
end Go.Proofs.YtoegdpcfhmjnaaaGreatDoor
