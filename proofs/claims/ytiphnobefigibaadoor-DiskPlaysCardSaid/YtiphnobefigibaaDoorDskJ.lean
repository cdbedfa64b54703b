/- The disk's acts: small, does. Under the stated premises on sizes. -/
import Derived.Test.YtiphnobefigibaaDoorDskI
namespace Go.Proofs.YtiphnobefigibaaDoor
open Go.RowKit Go.Bl
attribute [local go_sem ↓] Go.wp_at_zero Go.wp_at_succ

structure Ac where
  op : Int
  name : ByteArray
  more : ByteArray
  kv : Value
  keep : List Int
def acc (a : Ac) : List Value := [.int .i64 a.op, .string a.name, .string a.more, a.kv]
def AcOk (w : World) (G : Nat → Prop) (a : Ac) : Prop := Sl w G 1 intc a.kv a.keep ∧ i64 a.op ∧ a.name.size ≤ 140737488355328 ∧ a.more.size ≤ 140737488355328
/-- v reads as the acts l. -/
def Acts (w : World) (G : Nat → Prop) (v : Value) (l : List Ac) : Prop := Sl w G 4 acc v l ∧ ∀ a ∈ l, AcOk w G a
theorem AcOk.keep {w w' : World} {F G : Nat → Prop} {a : Ac} (h : AcOk w F a) (hk : Keeps G w w') (hd : ∀ k, k < w.heap.size → F k → ¬ G k) : AcOk w' F a := ⟨h.1.keep hk hd, h.2⟩
theorem Acts.keep {w w' : World} {F G : Nat → Prop} {v : Value} {l : List Ac} (h : Acts w F v l) (hk : Keeps G w w') (hd : ∀ k, k < w.heap.size → F k → ¬ G k) : Acts w' F v l :=
  ⟨h.1.keep hk hd, fun a ha => (h.2 a ha).keep hk hd⟩
def acOk (a : Ac) : Bool := decide (a.name.size ≤ 200) && decide (a.more.size ≤ 500) && decide (a.keep.length ≤ 60)
def smallB (l : List Ac) : Bool := decide (l.length ≤ 80) && l.all acOk
theorem acOk_iff {a : Ac} : acOk a = true ↔ a.name.size ≤ 200 ∧ a.more.size ≤ 500 ∧ a.keep.length ≤ 60 := by simp [acOk, and_assoc]
theorem smallB_at {l : List Ac} (h : smallB l = true) : l.length ≤ 80 ∧ ∀ a ∈ l, a.name.size ≤ 200 ∧ a.more.size ≤ 500 ∧ a.keep.length ≤ 60 := by
  simp only [smallB, Bool.and_eq_true, decide_eq_true_eq, List.all_eq_true] at h
  exact ⟨h.1, fun a ha => acOk_iff.1 (h.2 a ha)⟩
theorem all_take_succ {α : Type} {p : α → Bool} {l : List α} {k : Nat} (hk : k < l.length) (h : (l.take k).all p = true) (hp : p l[k] = true) : (l.take (k + 1)).all p = true := by
  rw [List.take_succ_eq_append_getElem hk, List.all_append, h]; simp [hp]
theorem all_false_of {α : Type} {p : α → Bool} {l : List α} {k : Nat} (hk : k < l.length) (hp : p l[k] = false) : l.all p = false := by
  rw [List.all_eq_false]
  exact ⟨l[k], List.getElem_mem hk, by simp [hp]⟩

set_option maxHeartbeats 1000000 in
theorem small_any (w : World) (G : Nat → Prop) (v : Value) (l : List Ac) (h : Acts w G v l) :
    Calls Tryd.prog 16 #[v] w fun e w' => e = .returned (.bool (smallB l)) ∧ w = w' := by
  obtain ⟨A, c, rfl, hA1, hA2⟩ := h.1.shape
  unfold maxLen at hA2
  have HA := Lib.hid h
  clear h
  by_cases h80 : l.length ≤ 80
  · have d80 : decide ((80 : Int) < (l.length : Int)) = false := by simp; omega
    go_enter Tryd.func16, Tryd.ntmps16
    go_wp2_with fail
    go_loop [3] (fun i => ∃ k : Nat, k ≤ l.length ∧ i = .int .i64 k ∧ (l.take k).all acOk = true) (fun i => l.length - (intOf i).toNat)
    case atStart => exact ⟨0, Nat.zero_le _, rfl, rfl⟩
    case round =>
      obtain ⟨k, hk, rfl, hH'⟩ := hrel
      have hH := Lib.hid hH'
      clear hH'
      by_cases hlt : k < l.length
      · obtain ⟨b, o, rfl, _, _, hxx⟩ := HA.out.1.cell_ hlt
        obtain ⟨hkv, hop, hn1, hm1⟩ := HA.out.2 l[k] (List.getElem_mem hlt)
        obtain ⟨B, d, hkk, hB1, hB2⟩ := hkv.shape
        have x1 := hxx 1 _ rfl
        have x2 := hxx 2 _ rfl
        have x3 := hxx 3 _ rfl
        rw [hkk] at x3
        unfold maxLen at hB2
        clear hxx hkv hkk
        by_cases t1 : l[k].name.size ≤ 200
        · have d1 : decide ((200 : Int) < (l[k].name.size : Int)) = false := by simp; omega
          by_cases t2 : l[k].more.size ≤ 500
          · have d2 : decide ((500 : Int) < (l[k].more.size : Int)) = false := by simp; omega
            by_cases t3 : l[k].keep.length ≤ 60
            · have d3 : decide ((60 : Int) < (l[k].keep.length : Int)) = false := by simp; omega
              go_wp2_with fail
              go_round
              case rel => exact ⟨k + 1, by omega, by go_num, all_take_succ hlt hH.out (acOk_iff.2 ⟨t1, t2, t3⟩)⟩
              case measure => simp [intOf]; omega
            · have d3 : decide ((60 : Int) < (l[k].keep.length : Int)) = true := by simp; omega
              go_wp2_with fail
              go_ret
              have : smallB l = false := by
                simp only [smallB, Bool.and_eq_false_iff]
                exact .inr (all_false_of hlt (by simp [acOk, t3]))
              rw [this]
              exact ⟨rfl, rfl⟩
          · have d2 : decide ((500 : Int) < (l[k].more.size : Int)) = true := by simp; omega
            go_wp2_with fail
            go_ret
            have : smallB l = false := by
              simp only [smallB, Bool.and_eq_false_iff]
              exact .inr (all_false_of hlt (by simp [acOk, t2]))
            rw [this]
            exact ⟨rfl, rfl⟩
        · have d1 : decide ((200 : Int) < (l[k].name.size : Int)) = true := by simp; omega
          go_wp2_with fail
          go_ret
          have : smallB l = false := by
            simp only [smallB, Bool.and_eq_false_iff]
            exact .inr (all_false_of hlt (by simp [acOk, t1]))
          rw [this]
          exact ⟨rfl, rfl⟩
      · have hkd : k = l.length := by omega
        subst hkd
        go_wp2_with fail
        go_ret
        have h1 := hH.out
        rw [List.take_of_length_le (Nat.le_refl _)] at h1
        have : smallB l = true := by simp [smallB, h80, h1]
        rw [this]
        exact ⟨rfl, rfl⟩
  · have d80 : decide ((80 : Int) < (l.length : Int)) = true := by simp; omega
    go_enter Tryd.func16, Tryd.ntmps16
    go_wp2_with fail
    go_ret
    have : smallB l = false := by simp [smallB, h80]
    rw [this]
    exact ⟨rfl, rfl⟩

/-- An act: the error and the disk; ks: the files' names in order. -/
def Dk.does (d : Dk) (a : Ac) (ks : List ByteArray) : Int × Dk :=
  if pickOf a.op 8 ≤ 2 then d.app a.name a.more
  else if pickOf a.op 8 ≤ 4 then ((if d.find a.name = none then 6 else 0), d.sync a.name)
  else if pickOf a.op 8 = 5 then d.ren a.name a.more
  else if pickOf a.op 8 = 6 then ((if d.find a.name = none then 6 else 0), d.del a.name)
  else (0, ⟨d.room, crashN a.keep ks d.L ks.length⟩)

set_option maxRecDepth 8000 in
set_option maxHeartbeats 4000000 in
theorem does_any (w : World) (X : Nat → Prop) (hX : ∀ k, X k → k < w.heap.size) (hT : Tabs w) (p : Nat) (d : Dk) (h : Dsk X w p d) (a : Ac) (ha : AcOk w X a) (hs : a.name.size ≤ 200 ∧ a.more.size ≤ 500) :
    Calls Tryd.prog 19 #[.pointer (some ⟨p, 0, none⟩), .agg #[.int .i64 a.op, .string a.name, .string a.more, a.kv]] w fun e w' => ∃ r d' ks, e = .returned (.int .i64 r) ∧ (r, d') = d.does a ks ∧ (pickOf a.op 8 = 7 → Names d.L ks) ∧ Dsk X w' p d' ∧ Keeps (fun k => ¬ X k) w w' := by
  obtain ⟨hkv, hop, -, -⟩ := ha
  obtain ⟨hs1, hs2⟩ := hs
  obtain ⟨B, c, hkk, hB1, hB2⟩ := hkv.shape
  rw [hkk] at hkv ⊢
  have hWb : Below w.heap.size w (w.alloc (.cells #[.int .i64 a.op, .string a.name, .string a.more, .slice B a.keep.length c] 44)) := (Below.refl _ w).alloc (Nat.le_refl _) _
  have hblk := heap_alloc_new w (.cells #[.int .i64 a.op, .string a.name, .string a.more, .slice B a.keep.length c] 44)
  have H := Lib.hid h
  have HT := Lib.hid hT
  have HK := Lib.hid hkv
  have HWb := Lib.hid hWb
  have HBL := Lib.hid hblk
  have HX := Lib.hid hX
  clear h hT hkv hWb hblk hX hkk
  go_enter Tryd.func19, Tryd.ntmps19
  go_upto_region 1 with (fail)
  generalize w.alloc (.cells #[.int .i64 a.op, .string a.name, .string a.more, .slice B a.keep.length c] 44) = w1 at HWb HBL ⊢
  have HX1 : Hid (∀ k, X k → k < w1.heap.size) := Lib.hid (fun k hk => Nat.lt_of_lt_of_le (HX.out k hk) HWb.out.size)
  have HT1 := Lib.hid (HT.out.fresh HWb.out)
  have H1 := Lib.hid (H.out.fresh HWb.out)
  have HK1 := Lib.hid (HK.out.fresh HWb.out)
  have x0 : w1.cell? ⟨w.heap.size, 0, none⟩ = some (.int .i64 a.op) := cell_of_row w1 _ 0 _ _ _ HBL.out
  have x1 : w1.cell? ⟨w.heap.size, 1, none⟩ = some (.string a.name) := cell_of_row w1 _ 1 _ _ _ HBL.out
  have x2 : w1.cell? ⟨w.heap.size, 2, none⟩ = some (.string a.more) := cell_of_row w1 _ 2 _ _ _ HBL.out
  have x3 : w1.cell? ⟨w.heap.size, 3, none⟩ = some (.slice B a.keep.length c) := cell_of_row w1 _ 3 _ _ _ HBL.out
  have HKA : ∀ w', Keeps (fun k => ¬ X k) w1 w' → Keeps (fun k => ¬ X k) w w' := fun w' hk => (Keeps.of_fresh HWb.out _).trans hk
  have HKA := Lib.hid HKA
  clear HBL H HT HK HX
  go_wp2_with fail
  refine (pick_any w1 a.op 8 hop (by decide)).mono ?_
  rintro e w2 ⟨rfl, rfl⟩
  obtain ⟨r1, r2⟩ := pickOf_range a.op (n := 8) (by decide)
  obtain ⟨P, hP⟩ : ∃ P, pickOf a.op 8 = P := ⟨_, rfl⟩
  have HP := Lib.hid hP
  rw [hP] at r1 r2 ⊢
  clear hP hop
  by_cases hP2 : P ≤ 2
  · have hc := appendD w1 X HX1.out HT1.out p d H1.out a.name a.more (by omega) (by omega)
    have hd : ∀ ks, d.does a ks = d.app a.name a.more := fun ks => by unfold Dk.does; rw [HP.out, if_pos hP2]
    have HC := Lib.hid hc
    have HDD := Lib.hid hd
    clear hc hd
    have hP3 : P = 0 ∨ P = 1 ∨ P = 2 := by omega
    clear r1 r2 hP2
    rcases hP3 with rfl | rfl | rfl
    all_goals (go_wp2_with fail; refine HC.out.mono ?_; rintro e w3 ⟨rfl, hD, hK⟩; go_wp2_with fail; go_ret; exact ⟨_, _, [], rfl, (HDD.out []).symm, (fun h => by have := HP.out; omega), hD, HKA.out _ hK⟩)
  · by_cases hP4 : P ≤ 4
    · have hc := syncD w1 X p d H1.out a.name (by unfold maxLen; omega)
      have hd : ∀ ks, d.does a ks = ((if d.find a.name = none then 6 else 0), d.sync a.name) := fun ks => by unfold Dk.does; rw [HP.out, if_neg hP2, if_pos hP4]
      obtain ⟨ev, hev⟩ : ∃ ev : Int, (if d.find a.name = none then (6 : Int) else 0) = ev := ⟨_, rfl⟩
      rw [hev] at hc hd
      have HC := Lib.hid hc
      have HDD := Lib.hid hd
      clear hc hd hev
      have hP3 : P = 3 ∨ P = 4 := by omega
      clear r1 r2 hP2 hP4
      rcases hP3 with rfl | rfl
      all_goals (go_wp2_with fail; refine HC.out.mono ?_; rintro e w3 ⟨rfl, hD, hK⟩; go_wp2_with fail; go_ret; exact ⟨_, _, [], rfl, (HDD.out []).symm, (fun h => by have := HP.out; omega), hD, HKA.out _ hK⟩)
    · by_cases hP5 : P = 5
      · have hc := renameD w1 X HX1.out HT1.out p d H1.out a.name a.more (by omega) (by omega)
        have hd : ∀ ks, d.does a ks = d.ren a.name a.more := fun ks => by unfold Dk.does; rw [HP.out, if_neg hP2, if_neg hP4, if_pos hP5]
        have HC := Lib.hid hc
        have HDD := Lib.hid hd
        clear hc hd r1 r2 hP2 hP4
        subst hP5
        go_wp2_with fail
        refine HC.out.mono ?_
        rintro e w3 ⟨rfl, hD, hK⟩
        go_wp2_with fail
        go_ret
        exact ⟨_, _, [], rfl, (HDD.out []).symm, (fun h => by have := HP.out; omega), hD, HKA.out _ hK⟩
      · by_cases hP6 : P = 6
        · have hc := deleteD w1 X p d H1.out a.name (by unfold maxLen; omega)
          have hd : ∀ ks, d.does a ks = ((if d.find a.name = none then 6 else 0), d.del a.name) := fun ks => by unfold Dk.does; rw [HP.out, if_neg hP2, if_neg hP4, if_neg hP5, if_pos hP6]
          obtain ⟨ev, hev⟩ : ∃ ev : Int, (if d.find a.name = none then (6 : Int) else 0) = ev := ⟨_, rfl⟩
          rw [hev] at hc hd
          have HC := Lib.hid hc
          have HDD := Lib.hid hd
          clear hc hd r1 r2 hP2 hP4 hP5 hev
          subst hP6
          go_wp2_with fail
          refine HC.out.mono ?_
          rintro e w3 ⟨rfl, hD, hK⟩
          go_wp2_with fail
          go_ret
          exact ⟨_, _, [], rfl, (HDD.out []).symm, (fun h => by have := HP.out; omega), hD, HKA.out _ hK⟩
        · have hc := crashD w1 X p d H1.out (.slice B a.keep.length c) a.keep HK1.out
          have hd : ∀ ks, d.does a ks = (0, ⟨d.room, crashN a.keep ks d.L ks.length⟩) := fun ks => by unfold Dk.does; rw [HP.out, if_neg hP2, if_neg hP4, if_neg hP5, if_neg hP6]
          have HC := Lib.hid hc
          have HDD := Lib.hid hd
          have hP7 : P = 7 := by omega
          clear hc hd r1 r2 hP2 hP4 hP5 hP6
          subst hP7
          go_wp2_with fail
          refine HC.out.mono ?_
          rintro e w3 ⟨rfl, ks, hN, hD, hK⟩
          go_wp2_with fail
          go_ret
          exact ⟨_, _, ks, rfl, (HDD.out ks).symm, (fun _ => hN), hD, HKA.out _ hK⟩
end Go.Proofs.YtiphnobefigibaaDoor
