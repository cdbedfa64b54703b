/- Records: whether an event, a batch, an entry is right. Under the tables that utf8 lays. -/
import Derived.Test.YthdcnknjjbdefaaGreatDoorTxtA
import Derived.Test.YthdcnknjjbdefaaGreatDoorBlB
import Derived.Test.YthdcnknjjbdefaaGreatDoorBlU
import Derived.Deep.CutBlock
import Derived.Deep.DeepCutAuto
namespace Go.Proofs.YthdcnknjjbdefaaGreatDoor
open Go.RowKit Go.Bl
attribute [local go_sem ↓] Go.wp_at_zero Go.wp_at_succ

structure Ev where
  kind : ByteArray
  data : ByteArray
  deriving DecidableEq
def evc (e : Ev) : List Value := [.string e.kind, .string e.data]
structure Ent where
  pos : Int
  epoch : Int
  stream : ByteArray
  expect : Int
  session : Int
  seq : Int
  evv : Value
  evs : List Ev
def entc (a : Ent) : List Value := [.int .i64 a.pos, .int .i64 a.epoch, .string a.stream, .int .i64 a.expect, .int .i64 a.session, .int .i64 a.seq, a.evv]
def rightE (e : Ev) : Bool := decide (e.data.size ≤ 200) && nameB e.kind
def numB (n : Int) : Bool := decide (1 ≤ n) && decide (n ≤ 274877906944)
def fitsI (a : Ent) : Int :=
  if nameB a.stream = false then 1 else if a.expect < -1 ∨ 274877906944 < a.expect then 1 else if numB a.session = false then 1 else if numB a.seq = false then 1 else if a.evs.length = 0 then 1
  else if 8 < a.evs.length then 4 else if (a.evs.any fun e => !rightE e) = true then 1 else 0
def rightB (a : Ent) : Bool := numB a.pos && (numB a.epoch && decide (fitsI a = 0))
/-- What is asked of a text's size. -/
def EvOk (e : Ev) : Prop := e.kind.size ≤ 1000000000000000 ∧ e.data.size ≤ 1000000000000000

set_option maxHeartbeats 1000000 in
theorem eright_any (w : World) (hT : Tabs w) (e : Ev) (he : EvOk e) : Calls Tryz.prog 87 #[.agg #[.string e.kind, .string e.data]] w fun x w' => x = .returned (.bool (rightE e)) ∧ Below w.heap.size w w' := by
  have hB0 : Below w.heap.size w (w.alloc (.cells #[.string e.kind, .string e.data] 68)) := (Below.refl _ w).alloc (Nat.le_refl _) _
  have HB0 := Lib.hid hB0
  have HT := Lib.hid hT
  have HE := Lib.hid he
  clear hB0 hT he
  by_cases h : e.data.size ≤ 200
  · have d1 : decide ((e.data.size : Int) ≤ 200) = true := by simp; omega
    have hr : rightE e = nameB e.kind := by simp [rightE, h]
    rw [hr]
    clear hr
    go_enter Tryz.func87, Tryz.ntmps87
    go_wp2_with fail
    refine (name_any _ (HT.out.fresh HB0.out) e.kind HE.out.1).mono ?_
    rintro x w1 ⟨rfl, hB1⟩
    go_wp2_with fail
    go_ret
    exact ⟨rfl, HB0.out.trans (hB1.mono HB0.out.size)⟩
  · have d1 : decide ((e.data.size : Int) ≤ 200) = false := by simp; omega
    have hr : rightE e = false := by simp [rightE, h]
    rw [hr]
    clear hr
    go_enter Tryz.func87, Tryz.ntmps87
    go_wp2_with fail
    go_ret
    exact ⟨rfl, HB0.out⟩
theorem num_any (w : World) (n : Int) : Calls Tryz.prog 83 #[.int .i64 n] w fun x w' => x = .returned (.bool (numB n)) ∧ w = w' := by
  by_cases h1 : 1 ≤ n
  · by_cases h2 : n ≤ 274877906944
    · have d1 : decide (1 ≤ n) = true := decide_eq_true h1
      have d2 : decide (n ≤ 274877906944) = true := decide_eq_true h2
      have hr : numB n = true := by simp [numB, h1, h2]
      rw [hr]
      clear hr
      go_enter Tryz.func83, Tryz.ntmps83
      go_wp2
      go_ret
      exact ⟨rfl, rfl⟩
    · have d1 : decide (1 ≤ n) = true := decide_eq_true h1
      have d2 : decide (n ≤ 274877906944) = false := decide_eq_false h2
      have hr : numB n = false := by simp [numB, h2]
      rw [hr]
      clear hr
      go_enter Tryz.func83, Tryz.ntmps83
      go_wp2
      go_ret
      exact ⟨rfl, rfl⟩
  · have d1 : decide (1 ≤ n) = false := decide_eq_false h1
    have hr : numB n = false := by simp [numB, h1]
    rw [hr]
    clear hr
    go_enter Tryz.func83, Tryz.ntmps83
    go_wp2
    go_ret
    exact ⟨rfl, rfl⟩
set_option maxHeartbeats 1000000 in
theorem neg_any (w : World) (hT : Tabs w) (e : Ev) (he : EvOk e) : Calls Tryz.prog 86 #[.agg #[.string e.kind, .string e.data]] w fun x w' => x = .returned (.bool (!rightE e)) ∧ Below w.heap.size w w' := by
  have hB0 : Below w.heap.size w (w.alloc (.cells #[.string e.kind, .string e.data] 68)) := (Below.refl _ w).alloc (Nat.le_refl _) _
  have HB0 := Lib.hid hB0
  have HT := Lib.hid hT
  have HE := Lib.hid he
  clear hB0 hT he
  go_enter Tryz.func86, Tryz.ntmps86
  go_wp2_with fail
  refine (eright_any _ (HT.out.fresh HB0.out) e HE.out).mono ?_
  rintro x w1 ⟨rfl, hB1⟩
  cases hr : rightE e
  · go_wp2_with fail
    go_ret
    exact ⟨by rw [hr]; rfl, HB0.out.trans (hB1.mono HB0.out.size)⟩
  · go_wp2_with fail
    go_ret
    exact ⟨by rw [hr]; rfl, HB0.out.trans (hB1.mono HB0.out.size)⟩

set_option maxHeartbeats 1000000 in
theorem index_any (w : World) (hT : Tabs w) (G : Nat → Prop) (v : Value) (l : List Ev) (h : Sl w G 2 evc v l) (_hl : l.length ≤ 1000000) (hok : ∀ e ∈ l, EvOk e) :
    Calls Tryz.prog 94 #[v, .func (.func 86) #[] #[]] w fun x w' => ∃ r : Int, x = .returned (.int .i64 r) ∧ decide (0 ≤ r) = (l.any fun e => !rightE e) ∧ Below w.heap.size w w' := by
  obtain ⟨A, c, rfl, hA1, hA2⟩ := h.shape
  unfold maxLen at hA2
  have HS := Lib.hid h
  have HT := Lib.hid hT
  have HO := Lib.hid hok
  clear h hT hok
  go_enter Tryz.func94, Tryz.ntmps94
  go_wp2_with fail
  go_loopw [8, 5] (fun i _ wr => ∃ k : Nat, k ≤ l.length ∧ i = .int .i64 k ∧ (∀ e ∈ l.take k, rightE e = true) ∧ Below w.heap.size w wr) (fun i _ _ => l.length - (intOf i).toNat)
  case atStart => exact ⟨0, Nat.zero_le _, rfl, by simp, Below.refl _ _⟩
  case round =>
    obtain ⟨k, hk, rfl, hall, hB⟩ := hrel
    have HB := Lib.hid hB
    have HALL := Lib.hid hall
    clear hB hall
    by_cases hlt : k < l.length
    · obtain ⟨b, o, rfl, _, _, hxx⟩ := (HS.out.fresh HB.out).cell_ hlt
      have x0 := hxx 0 _ rfl
      have x1 := hxx 1 _ rfl
      simp only [Nat.add_zero] at x0
      clear hxx
      go_wp2_with fail
      refine (neg_any wr (HT.out.fresh HB.out) l[k] (HO.out _ (List.getElem_mem hlt))).mono ?_
      rintro x w1 ⟨rfl, hB1⟩
      have HB1 := Lib.hid (HB.out.trans (hB1.mono HB.out.size))
      clear hB1
      cases hr : rightE l[k]
      · go_wp2_with fail
        go_ret
        refine ⟨k, rfl, ?_, HB1.out⟩
        rw [decide_eq_true (by omega)]
        symm
        rw [List.any_eq_true]
        exact ⟨l[k], List.getElem_mem hlt, by rw [hr]; rfl⟩
      · go_wp2_with fail
        go_roundw
        case rel =>
          refine ⟨k + 1, hlt, by go_num, fun e he => ?_, HB1.out⟩
          rw [List.take_succ_eq_append_getElem hlt, List.mem_append, List.mem_singleton] at he
          rcases he with he | rfl
          · exact HALL.out e he
          · exact hr
        case measure => simp [intOf]; omega
    · have hkd : k = l.length := by omega
      subst hkd
      go_wp2_with fail
      go_ret
      refine ⟨-1, rfl, ?_, HB.out⟩
      have h1 := HALL.out
      rw [List.take_length] at h1
      symm
      rw [decide_eq_false (by omega), List.any_eq_false]
      intro e he
      rw [h1 e he]
      decide
theorem cont_any (w : World) (hT : Tabs w) (G : Nat → Prop) (v : Value) (l : List Ev) (h : Sl w G 2 evc v l) (hl : l.length ≤ 1000000) (hok : ∀ e ∈ l, EvOk e) :
    Calls Tryz.prog 85 #[v, .func (.func 86) #[] #[]] w fun x w' => x = .returned (.bool (l.any fun e => !rightE e)) ∧ Below w.heap.size w w' := by
  have hc := index_any w hT G v l h hl hok
  obtain ⟨A, c, rfl, hA1, hA2⟩ := h.shape
  have HC := Lib.hid hc
  clear hc h hok hT
  go_enter Tryz.func85, Tryz.ntmps85
  go_wp2_with fail
  refine HC.out.mono ?_
  rintro x w1 ⟨r, rfl, hr, hB⟩
  have HR := Lib.hid hr
  clear hr
  by_cases h0 : 0 ≤ r
  · have d0 : decide (0 ≤ r) = true := decide_eq_true h0
    go_wp2_with fail
    go_ret
    exact ⟨by rw [← HR.out, d0]; rfl, hB⟩
  · have d0 : decide (0 ≤ r) = false := decide_eq_false h0
    go_wp2_with fail
    go_ret
    exact ⟨by rw [← HR.out, d0]; rfl, hB⟩

def BatchOk (w : World) (G : Nat → Prop) (a : Ent) : Prop := Sl w G 2 evc a.evv a.evs ∧ (∀ e ∈ a.evs, EvOk e) ∧ a.stream.size ≤ 1000000000000000 ∧ a.evs.length ≤ 1000000
theorem BatchOk.fresh {w w' : World} {G : Nat → Prop} {a : Ent} (h : BatchOk w G a) (hB : Below w.heap.size w w') : BatchOk w' G a := ⟨h.1.fresh hB, h.2⟩

set_option maxRecDepth 8000 in
set_option maxHeartbeats 2000000 in
theorem fits_any (w : World) (hT : Tabs w) (G : Nat → Prop) (a : Ent) (h : BatchOk w G a) :
    Calls Tryz.prog 74 #[.agg #[.string a.stream, .int .i64 a.expect, .int .i64 a.session, .int .i64 a.seq, a.evv]] w fun x w' => x = .returned (.int .i64 (fitsI a)) ∧ Below w.heap.size w w' := by
  obtain ⟨hs, hok, hst, hn⟩ := h
  obtain ⟨A, c, hv, hA1, hA2⟩ := hs.shape
  rw [hv] at hs ⊢
  unfold maxLen at hA2
  have hB0 : Below w.heap.size w (w.alloc (.cells #[.string a.stream, .int .i64 a.expect, .int .i64 a.session, .int .i64 a.seq, .slice A a.evs.length c] 32)) := (Below.refl _ w).alloc (Nat.le_refl _) _
  have hblk := heap_alloc_new w (.cells #[.string a.stream, .int .i64 a.expect, .int .i64 a.session, .int .i64 a.seq, .slice A a.evs.length c] 32)
  have HB0 := Lib.hid hB0
  have HBL := Lib.hid hblk
  have HT := Lib.hid hT
  have HS := Lib.hid hs
  have HO := Lib.hid hok
  obtain ⟨r, hr⟩ : ∃ r, fitsI a = r := ⟨_, rfl⟩
  rw [hr]
  unfold fitsI at hr
  have HR := Lib.hid hr
  clear hB0 hblk hT hs hok hv hr
  go_enter Tryz.func74, Tryz.ntmps74
  go_upto_region 1 with (fail)
  generalize w.alloc (.cells #[.string a.stream, .int .i64 a.expect, .int .i64 a.session, .int .i64 a.seq, .slice A a.evs.length c] 32) = w1 at HB0 HBL ⊢
  have x0 : w1.cell? ⟨w.heap.size, 0, none⟩ = some (.string a.stream) := cell_of_row w1 _ 0 _ _ _ HBL.out
  have x1 : w1.cell? ⟨w.heap.size, 1, none⟩ = some (.int .i64 a.expect) := cell_of_row w1 _ 1 _ _ _ HBL.out
  have x2 : w1.cell? ⟨w.heap.size, 2, none⟩ = some (.int .i64 a.session) := cell_of_row w1 _ 2 _ _ _ HBL.out
  have x3 : w1.cell? ⟨w.heap.size, 3, none⟩ = some (.int .i64 a.seq) := cell_of_row w1 _ 3 _ _ _ HBL.out
  have x4 : w1.cell? ⟨w.heap.size, 4, none⟩ = some (.slice A a.evs.length c) := cell_of_row w1 _ 4 _ _ _ HBL.out
  have hlt := (Array.getElem?_eq_some_iff.1 HBL.out).1
  go_wp2_with fail
  refine (name_any w1 (HT.out.fresh HB0.out) a.stream hst).mono ?_
  rintro x w2 ⟨rfl, hB2⟩
  have HB2 := Lib.hid (HB0.out.trans (hB2.mono HB0.out.size))
  have x1 := (hB2.cell (p := ⟨w.heap.size, 1, none⟩) hlt).trans x1
  have x2 := (hB2.cell (p := ⟨w.heap.size, 2, none⟩) hlt).trans x2
  have x3 := (hB2.cell (p := ⟨w.heap.size, 3, none⟩) hlt).trans x3
  have x4 := (hB2.cell (p := ⟨w.heap.size, 4, none⟩) hlt).trans x4
  clear hB2 HBL hlt x0
  cases hnm : nameB a.stream
  · go_wp2_with fail
    go_ret
    have := HR.out
    rw [if_pos hnm] at this
    exact ⟨by rw [← this]; rfl, HB2.out⟩
  have HR1 := HR.out
  rw [if_neg (by rw [hnm]; decide)] at HR1
  have HR1 := Lib.hid HR1
  by_cases he1 : a.expect < -1
  · have d1 : decide (a.expect < -1) = true := decide_eq_true he1
    go_wp2_with fail
    go_ret
    have := HR1.out
    rw [if_pos (.inl he1)] at this
    exact ⟨by rw [← this]; rfl, HB2.out⟩
  have d1 : decide (a.expect < -1) = false := decide_eq_false he1
  by_cases he2 : 274877906944 < a.expect
  · have d2 : decide (274877906944 < a.expect) = true := decide_eq_true he2
    go_wp2_with fail
    go_ret
    have := HR1.out
    rw [if_pos (.inr he2)] at this
    exact ⟨by rw [← this]; rfl, HB2.out⟩
  have d2 : decide (274877906944 < a.expect) = false := decide_eq_false he2
  have HR2 := HR1.out
  rw [if_neg (fun h => h.elim he1 he2)] at HR2
  have HR2 := Lib.hid HR2
  go_wp2_with fail
  refine (num_any w2 a.session).mono ?_
  rintro x w3 ⟨rfl, rfl⟩
  cases hn1 : numB a.session
  · go_wp2_with fail
    go_ret
    have := HR2.out
    rw [if_pos hn1] at this
    exact ⟨by rw [← this]; rfl, HB2.out⟩
  have HR3 := HR2.out
  rw [if_neg (by rw [hn1]; decide)] at HR3
  have HR3 := Lib.hid HR3
  go_wp2_with fail
  refine (num_any w2 a.seq).mono ?_
  rintro x w3 ⟨rfl, rfl⟩
  cases hn2 : numB a.seq
  · go_wp2_with fail
    go_ret
    have := HR3.out
    rw [if_pos hn2] at this
    exact ⟨by rw [← this]; rfl, HB2.out⟩
  have HR4 := HR3.out
  rw [if_neg (by rw [hn2]; decide)] at HR4
  have HR4 := Lib.hid HR4
  by_cases h0 : a.evs.length = 0
  · have d3 : ((a.evs.length : Int) == 0) = true := by simp; exact List.eq_nil_of_length_eq_zero h0
    go_wp2_with fail
    go_ret
    have := HR4.out
    rw [if_pos h0] at this
    exact ⟨by rw [← this]; rfl, HB2.out⟩
  have d3 : ((a.evs.length : Int) == 0) = false := by rw [beq_eq_false_iff_ne]; omega
  have HR5 := HR4.out
  rw [if_neg h0] at HR5
  have HR5 := Lib.hid HR5
  by_cases h8 : 8 < a.evs.length
  · have d4 : decide ((8 : Int) < (a.evs.length : Int)) = true := by simp; omega
    go_wp2_with fail
    go_ret
    have := HR5.out
    rw [if_pos h8] at this
    exact ⟨by rw [← this]; rfl, HB2.out⟩
  have d4 : decide ((8 : Int) < (a.evs.length : Int)) = false := by simp; omega
  have HR6 := HR5.out
  rw [if_neg h8] at HR6
  have HR6 := Lib.hid HR6
  go_wp2_with fail
  refine (cont_any w2 (HT.out.fresh HB2.out) G _ a.evs (HS.out.fresh HB2.out) hn HO.out).mono ?_
  rintro x w3 ⟨rfl, hB3⟩
  have HB3 := Lib.hid (HB2.out.trans (hB3.mono HB2.out.size))
  clear hB3
  obtain ⟨bb, hbb⟩ : ∃ bb, (a.evs.any fun e => !rightE e) = bb := ⟨_, rfl⟩
  have hr6 := HR6.out
  rw [hbb] at hr6 ⊢
  have HR7 := Lib.hid hr6
  clear hbb hr6
  cases bb
  · go_wp2_with fail
    go_ret
    have := HR7.out
    rw [if_neg (by decide)] at this
    exact ⟨by rw [← this]; rfl, HB3.out⟩
  · go_wp2_with fail
    go_ret
    have : r = 1 := by simpa using HR7.out.symm
    exact ⟨by rw [this]; rfl, HB3.out⟩

set_option maxRecDepth 8000 in
set_option maxHeartbeats 2000000 in
theorem right_any (w : World) (hT : Tabs w) (G : Nat → Prop) (a : Ent) (h : BatchOk w G a) :
    Calls Tryz.prog 63 #[.agg #[.int .i64 a.pos, .int .i64 a.epoch, .string a.stream, .int .i64 a.expect, .int .i64 a.session, .int .i64 a.seq, a.evv]] w fun x w' => x = .returned (.bool (rightB a)) ∧ Below w.heap.size w w' := by
  obtain ⟨A, c, hv, hA1, hA2⟩ := h.1.shape
  have hB0 : Below w.heap.size w (w.alloc (.cells #[.int .i64 a.pos, .int .i64 a.epoch, .string a.stream, .int .i64 a.expect, .int .i64 a.session, .int .i64 a.seq, .slice A a.evs.length c] 55)) := (Below.refl _ w).alloc (Nat.le_refl _) _
  have hblk := heap_alloc_new w (.cells #[.int .i64 a.pos, .int .i64 a.epoch, .string a.stream, .int .i64 a.expect, .int .i64 a.session, .int .i64 a.seq, .slice A a.evs.length c] 55)
  have hf := fits_any (w.alloc (.cells #[.int .i64 a.pos, .int .i64 a.epoch, .string a.stream, .int .i64 a.expect, .int .i64 a.session, .int .i64 a.seq, .slice A a.evs.length c] 55)) (hT.fresh hB0) G a (h.fresh hB0)
  rw [hv] at hf ⊢
  unfold maxLen at hA2
  have HB0 := Lib.hid hB0
  have HBL := Lib.hid hblk
  have HF := Lib.hid hf
  obtain ⟨r, hr⟩ : ∃ r, rightB a = r := ⟨_, rfl⟩
  rw [hr]
  unfold rightB numB at hr
  have HR := Lib.hid hr
  clear hB0 hblk hT h hv hf hr
  go_enter Tryz.func63, Tryz.ntmps63
  go_upto_region 1 with (fail)
  generalize w.alloc (.cells #[.int .i64 a.pos, .int .i64 a.epoch, .string a.stream, .int .i64 a.expect, .int .i64 a.session, .int .i64 a.seq, .slice A a.evs.length c] 55) = w1 at HB0 HBL HF ⊢
  have x0 : w1.cell? ⟨w.heap.size, 0, none⟩ = some (.int .i64 a.pos) := cell_of_row w1 _ 0 _ _ _ HBL.out
  have x1 : w1.cell? ⟨w.heap.size, 1, none⟩ = some (.int .i64 a.epoch) := cell_of_row w1 _ 1 _ _ _ HBL.out
  have x2 : w1.cell? ⟨w.heap.size, 2, none⟩ = some (.string a.stream) := cell_of_row w1 _ 2 _ _ _ HBL.out
  have x3 : w1.cell? ⟨w.heap.size, 3, none⟩ = some (.int .i64 a.expect) := cell_of_row w1 _ 3 _ _ _ HBL.out
  have x4 : w1.cell? ⟨w.heap.size, 4, none⟩ = some (.int .i64 a.session) := cell_of_row w1 _ 4 _ _ _ HBL.out
  have x5 : w1.cell? ⟨w.heap.size, 5, none⟩ = some (.int .i64 a.seq) := cell_of_row w1 _ 5 _ _ _ HBL.out
  have x6 : w1.cell? ⟨w.heap.size, 6, none⟩ = some (.slice A a.evs.length c) := cell_of_row w1 _ 6 _ _ _ HBL.out
  clear HBL
  by_cases p1 : 1 ≤ a.pos
  · have d1 : decide (1 ≤ a.pos) = true := decide_eq_true p1
    by_cases p2 : a.pos ≤ 274877906944
    · have d2 : decide (a.pos ≤ 274877906944) = true := decide_eq_true p2
      by_cases p3 : 1 ≤ a.epoch
      · have d3 : decide (1 ≤ a.epoch) = true := decide_eq_true p3
        by_cases p4 : a.epoch ≤ 274877906944
        · have d4 : decide (a.epoch ≤ 274877906944) = true := decide_eq_true p4
          go_wp2_with fail
          refine HF.out.mono ?_
          rintro x w2 ⟨rfl, hB2⟩
          have HB2 := Lib.hid (HB0.out.trans (hB2.mono HB0.out.size))
          clear hB2
          by_cases hz : fitsI a = 0
          · have dz : (fitsI a == 0) = true := by simp [hz]
            have HZ := Lib.hid hz
            clear hz
            go_wp2_with fail
            go_ret
            exact ⟨by rw [show r = true by rw [← HR.out]; simp [p1, p2, p3, p4, HZ.out]]; rfl, HB2.out⟩
          · have dz : (fitsI a == 0) = false := by simp [hz]
            have HZ := Lib.hid hz
            clear hz
            go_wp2_with fail
            go_ret
            exact ⟨by rw [show r = false by rw [← HR.out]; simp [HZ.out]]; rfl, HB2.out⟩
        · have d4 : decide (a.epoch ≤ 274877906944) = false := decide_eq_false p4
          go_wp2_with fail
          go_ret
          exact ⟨by rw [show r = false by rw [← HR.out]; simp only [Bool.and_eq_false_iff, decide_eq_false_iff_not]; omega]; rfl, HB0.out⟩
      · have d3 : decide (1 ≤ a.epoch) = false := decide_eq_false p3
        go_wp2_with fail
        go_ret
        exact ⟨by rw [show r = false by rw [← HR.out]; simp only [Bool.and_eq_false_iff, decide_eq_false_iff_not]; omega]; rfl, HB0.out⟩
    · have d2 : decide (a.pos ≤ 274877906944) = false := decide_eq_false p2
      go_wp2_with fail
      go_ret
      exact ⟨by rw [show r = false by rw [← HR.out]; simp only [Bool.and_eq_false_iff, decide_eq_false_iff_not]; omega]; rfl, HB0.out⟩
  · have d1 : decide (1 ≤ a.pos) = false := decide_eq_false p1
    go_wp2_with fail
    go_ret
    exact ⟨by rw [show r = false by rw [← HR.out]; simp only [Bool.and_eq_false_iff, decide_eq_false_iff_not]; omega]; rfl, HB0.out⟩
end Go.Proofs.YthdcnknjjbdefaaGreatDoor
