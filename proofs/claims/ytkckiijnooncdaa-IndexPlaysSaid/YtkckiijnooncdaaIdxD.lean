/- The statements' own helpers: same, small. -/
import Derived.Test.YtkckiijnooncdaaIdxB
namespace Go.Proofs.Ytkckiijnooncdaa
open Go.RowKit Go.Bl

theorem bytes_inj (a b : ByteArray) : (a.toList = b.toList) = (a = b) := by
  rw [ByteArray.toList_eq, ByteArray.toList_eq]
  obtain ⟨⟨x⟩⟩ := a
  obtain ⟨⟨y⟩⟩ := b
  simp

/-- Are two events unlike? Under a name that the walk does not open. -/
def evNe (a b c d : ByteArray) : Bool := decide (¬ ((⟨a, b⟩ : Ev) = ⟨c, d⟩))
theorem evNe_false {x y : Ev} (h : x = y) : evNe x.kind x.data y.kind y.data = false := by subst h; simp [evNe]
theorem evNe_true {x y : Ev} (h : ¬ x = y) : evNe x.kind x.data y.kind y.data = true := by unfold evNe; rw [decide_eq_true_eq]; exact h

theorem neqEv (a b c d : ByteArray) (w : World) : (binOp .neq 41 (.agg #[.string a, .string b]) (.agg #[.string c, .string d])).run Try.prog w = .ok (.bool (evNe a b c d)) w := by
  have u3 := Try.underlying9
  have a3 := Try.isAgg9
  have z3 := Try.sizeOf9
  have hS : Try.prog.underlying 41 = some (.struct (Try.prog.fieldsOf 41)) := by kernel_rfl
  have hp : Try.prog.stoodInHeld 41 = false := by kernel_rfl
  rw [run_neq_struct, show (10000 : Nat) = 9999 + 1 from rfl, run_equalIn_agg w 9999 41 _ _ hS hp]
  simp only [Program.fieldsOf, Try.underlying41]
  go_simp
  by_cases h1 : a = c <;> by_cases h2 : b = d <;> simp [bytes_inj, evNe, h1, h2]

set_option maxHeartbeats 400000 in
theorem same_any (w : World) (G G' : Nat → Prop) (va vb : Value) (xs ys : List Ev) (ha : Sl w G 2 evc va xs) (hb : Sl w G' 2 evc vb ys) :
    Calls Try.prog 13 #[va, vb] w fun e w' => e = .returned (.bool (decide (xs = ys))) ∧ ∃ q, w' = w.drewN q := by
  have hne := neqEv
  obtain ⟨A, c, rfl, hA1, hA2⟩ := ha.shape
  obtain ⟨B, d, rfl, hB1, hB2⟩ := hb.shape
  have HA := Lib.hid ha
  have HB := Lib.hid hb
  unfold maxLen at hA2 hB2
  clear ha hb
  by_cases hnm : xs.length = ys.length
  · have h1 : ((xs.length : Int) != (ys.length : Int)) = false := by simp [hnm]
    have HH := Lib.hid hnm
    clear hnm
    go_enter Try.func13, Try.ntmps13
    go_wp2_with fail
    go_loopw [5] (fun i wr => ∃ k q : Nat, k ≤ xs.length ∧ i = .int .i64 k ∧ wr = w.drewN q ∧ xs.take k = ys.take k) (fun i _ => xs.length - (intOf i).toNat)
    case atStart => exact ⟨0, 0, Nat.zero_le _, rfl, rfl, rfl⟩
    case round =>
      obtain ⟨k, q, hk, rfl, rfl, hH'⟩ := hrel
      have hH := Lib.hid hH'
      clear hH'
      by_cases hlt : k < xs.length
      · have hmk : k < ys.length := by rw [← HH.out]; exact hlt
        obtain ⟨b, o, rfl, _, _, hxx⟩ := HA.out.cell_ hlt
        obtain ⟨b', o', rfl, _, _, hyy⟩ := HB.out.cell_ hmk
        have x1 := hxx 0 _ rfl
        have x2 := hxx 1 _ rfl
        have y1 := hyy 0 _ rfl
        have y2 := hyy 1 _ rfl
        simp only [Nat.add_zero] at x1 y1
        clear hxx hyy
        have hkk : k < 9223372036854775807 := by omega
        by_cases he : xs[k] = ys[k]
        · have hd := evNe_false he
          have HE := Lib.hid he
          clear he
          go_wp2_with fail
          go_quiet (fail)
          go_wp2_with fail
          go_roundw
          case rel => exact ⟨k + 1, _, by omega, by go_num, rfl, by rw [List.take_succ_eq_append_getElem hlt, List.take_succ_eq_append_getElem hmk, hH.out, HE.out]⟩
          case measure => simp [intOf]; omega
        · have hd := evNe_true he
          have hf : decide (xs = ys) = false := by
            rw [decide_eq_false_iff_not]; intro h; subst h; exact he rfl
          have HF := Lib.hid hf
          clear he hf
          go_wp2_with fail
          go_quiet (fail)
          go_wp2_with fail
          go_ret
          rw [HF.out]
          exact ⟨rfl, _, World.drewN_drewN _ _ _⟩
      · go_wp2_with fail
        go_ret
        have hkd : k = xs.length := by omega
        have h := hH.out
        rw [List.take_of_length_le (by omega), List.take_of_length_le (by have := HH.out; omega)] at h
        rw [decide_eq_true h]
        exact ⟨rfl, _, rfl⟩
  · have h1 : ((xs.length : Int) != (ys.length : Int)) = true := by simp; omega
    have hf : decide (xs = ys) = false := by
      rw [decide_eq_false_iff_not]; intro h; exact hnm (by rw [h])
    rw [hf]
    clear hnm hf
    go_enter Try.func13, Try.ntmps13
    go_wp2_with fail
    go_ret
    exact ⟨rfl, 0, rfl⟩

/-- What is added at once. -/
structure Ac where
  pos : Int
  fr : Int
  most : Int
  stream : ByteArray
  evv : Value
  evs : List Ev
def acc (a : Ac) : List Value := [.int .i64 a.pos, .int .i64 a.fr, .int .i64 a.most, .string a.stream, a.evv]
/-- v reads as the acts l; strings are no longer than a reading allows. -/
def Acts (w : World) (G : Nat → Prop) (v : Value) (l : List Ac) : Prop :=
  Sl w G 5 acc v l ∧ ∀ a ∈ l, Sl w G 2 evc a.evv a.evs ∧ a.stream.size ≤ 140737488355328 ∧ ∀ e ∈ a.evs, e.kind.size ≤ 140737488355328 ∧ e.data.size ≤ 140737488355328
theorem Acts.keep {w w' : World} {F G : Nat → Prop} {v : Value} {l : List Ac} (h : Acts w F v l) (hk : Keeps G w w') (hd : ∀ k, k < w.heap.size → F k → ¬ G k) : Acts w' F v l :=
  ⟨h.1.keep hk hd, fun a ha => ⟨(h.2 a ha).1.keep hk hd, (h.2 a ha).2⟩⟩
def evOk (e : Ev) : Bool := decide (e.kind.size + e.data.size ≤ 500)
def acOk (a : Ac) : Bool := decide (a.stream.size ≤ 300) && decide (a.evs.length ≤ 20) && a.evs.all evOk
def smallB (l : List Ac) : Bool := decide (l.length ≤ 60) && l.all acOk
theorem all_take_succ {α : Type} {p : α → Bool} {l : List α} {k : Nat} (hk : k < l.length) (h : (l.take k).all p = true) (hp : p l[k] = true) : (l.take (k + 1)).all p = true := by
  rw [List.take_succ_eq_append_getElem hk, List.all_append, h]; simp [hp]
theorem all_false_of {α : Type} {p : α → Bool} {l : List α} {k : Nat} (hk : k < l.length) (hp : p l[k] = false) : l.all p = false := by
  rw [List.all_eq_false]
  exact ⟨l[k], List.getElem_mem hk, by simp [hp]⟩

set_option maxHeartbeats 1000000 in
theorem small_any (w : World) (G : Nat → Prop) (v : Value) (l : List Ac) (h : Acts w G v l) :
    Calls Try.prog 8 #[v] w fun e w' => e = .returned (.bool (smallB l)) ∧ ∃ q, w' = w.drewN q := by
  obtain ⟨A, c, rfl, hA1, hA2⟩ := h.1.shape
  unfold maxLen at hA2
  have HA := Lib.hid h
  clear h
  by_cases h60 : l.length ≤ 60
  · go_enter Try.func8, Try.ntmps8
    go_wp2_with fail
    go_loopw [3] (fun i wr => ∃ k q : Nat, k ≤ l.length ∧ i = .int .i64 k ∧ wr = w.drewN q ∧ (l.take k).all acOk = true) (fun i _ => l.length - (intOf i).toNat)
    case atStart => exact ⟨0, 0, Nat.zero_le _, rfl, rfl, rfl⟩
    case round =>
      obtain ⟨k, q, hk, rfl, rfl, hH'⟩ := hrel
      have hH := Lib.hid hH'
      clear hH'
      by_cases hlt : k < l.length
      · obtain ⟨b, o, rfl, _, _, hxx⟩ := HA.out.1.cell_ hlt
        obtain ⟨hev, hst, hes⟩ := HA.out.2 l[k] (List.getElem_mem hlt)
        obtain ⟨B, d, hevv, hB1, hB2⟩ := hev.shape
        have x3 := hxx 3 _ rfl
        have x4 := hxx 4 _ rfl
        rw [hevv] at x4 hev
        have HV := Lib.hid hev
        have HES := Lib.hid hes
        unfold maxLen at hB2
        clear hxx hev hes hevv
        by_cases t1 : l[k].stream.size ≤ 300
        · by_cases t2 : l[k].evs.length ≤ 20
          · have d1 : decide ((300 : Int) < (l[k].stream.size : Int)) = false := by simp; omega
            go_wp2_with fail
            go_loopw [4] (fun i wr => ∃ j r : Nat, j ≤ l[k].evs.length ∧ i = .int .i64 j ∧ wr = w.drewN r ∧ (l[k].evs.take j).all evOk = true) (fun i _ => l[k].evs.length - (intOf i).toNat)
            case atStart => exact ⟨0, q, Nat.zero_le _, rfl, rfl, rfl⟩
            case round =>
              obtain ⟨j, r, hj, rfl, rfl, hJ'⟩ := hrel
              have hJ := Lib.hid hJ'
              clear hJ'
              by_cases hjt : j < l[k].evs.length
              · obtain ⟨b', o', rfl, _, _, hyy⟩ := HV.out.cell_ hjt
                obtain ⟨hs1, hs2⟩ := HES.out l[k].evs[j] (List.getElem_mem hjt)
                have y0 := hyy 0 _ rfl
                have y1 := hyy 1 _ rfl
                simp only [Nat.add_zero] at y0
                clear hyy
                by_cases t3 : l[k].evs[j].kind.size + l[k].evs[j].data.size ≤ 500
                · have d3 : decide ((500 : Int) < (l[k].evs[j].kind.size : Int) + (l[k].evs[j].data.size : Int)) = false := by simp; omega
                  go_wp2_with fail
                  go_quiet (fail)
                  go_wp2_with fail
                  go_roundw
                  case rel => exact ⟨j + 1, _, by omega, by go_num, rfl, all_take_succ hjt hJ.out (by simp [evOk, t3])⟩
                  case measure => simp [intOf]; omega
                · have d3 : decide ((500 : Int) < (l[k].evs[j].kind.size : Int) + (l[k].evs[j].data.size : Int)) = true := by simp; omega
                  go_wp2_with fail
                  go_quiet (fail)
                  go_wp2_with fail
                  go_ret
                  have : smallB l = false := by
                    simp only [smallB, Bool.and_eq_false_iff]
                    exact .inr (all_false_of hlt (by simp only [acOk, Bool.and_eq_false_iff]; exact .inr (all_false_of hjt (by simp [evOk]; omega))))
                  rw [this]
                  exact ⟨rfl, _, World.drewN_drewN _ _ _⟩
              · have hj2 : j = l[k].evs.length := by omega
                subst hj2
                go_wp2_with fail
                go_roundw
                case rel =>
                  refine ⟨k + 1, _, by omega, by go_num, rfl, all_take_succ hlt hH.out ?_⟩
                  have := hJ.out
                  rw [List.take_of_length_le (Nat.le_refl _)] at this
                  simp [acOk, t1, t2, this]
                case measure => simp [intOf]; omega
          · have d1 : decide ((300 : Int) < (l[k].stream.size : Int)) = false := by simp; omega
            have d2 : decide ((20 : Int) < (l[k].evs.length : Int)) = true := by simp; omega
            go_wp2_with fail
            go_ret
            have : smallB l = false := by
              simp only [smallB, Bool.and_eq_false_iff]
              exact .inr (all_false_of hlt (by simp [acOk, t2]))
            rw [this]
            exact ⟨rfl, _, rfl⟩
        · have d1 : decide ((300 : Int) < (l[k].stream.size : Int)) = true := by simp; omega
          go_wp2_with fail
          go_ret
          have : smallB l = false := by
            simp only [smallB, Bool.and_eq_false_iff]
            exact .inr (all_false_of hlt (by simp [acOk, t1]))
          rw [this]
          exact ⟨rfl, _, rfl⟩
      · have hkd : k = l.length := by omega
        subst hkd
        go_wp2_with fail
        go_ret
        have h := hH.out
        rw [List.take_of_length_le (Nat.le_refl _)] at h
        have : smallB l = true := by simp [smallB, h, h60]
        rw [this]
        exact ⟨rfl, _, rfl⟩
  · have d0 : decide ((60 : Int) < (l.length : Int)) = true := by simp; omega
    have : smallB l = false := by simp [smallB, h60]
    rw [this]
    clear this h60
    go_enter Try.func8, Try.ntmps8
    go_wp2_with fail
    go_ret
    exact ⟨rfl, 0, rfl⟩
end Go.Proofs.Ytkckiijnooncdaa
