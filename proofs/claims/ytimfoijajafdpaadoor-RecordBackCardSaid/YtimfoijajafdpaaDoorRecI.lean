/- Records: the laws' light, small. No condition. -/
import Derived.Test.YtimfoijajafdpaaDoorRecD
namespace Go.Proofs.YtimfoijajafdpaaDoor
open Go.RowKit Go.Bl
attribute [local go_sem ↓] Go.wp_at_zero Go.wp_at_succ

/-- What is known of any entry. -/
def EntOk (w : World) (G : Nat → Prop) (a : Ent) : Prop := Sl w G 2 evc a.evv a.evs ∧ (∀ e ∈ a.evs, EvOk e) ∧ a.stream.size ≤ 1000000000000000 ∧ (-9223372036854775808 ≤ a.pos ∧ a.pos ≤ 9223372036854775807)
theorem EntOk.fresh {w w' : World} {G : Nat → Prop} {a : Ent} (h : EntOk w G a) (hB : Below w.heap.size w w') : EntOk w' G a := ⟨h.1.fresh hB, h.2⟩
def EntsOk (w : World) (G : Nat → Prop) (v : Value) (l : List Ent) : Prop := Sl w G 7 entc v l ∧ ∀ a ∈ l, EntOk w G a
theorem EntsOk.fresh {w w' : World} {G : Nat → Prop} {v : Value} {l : List Ent} (h : EntsOk w G v l) (hB : Below w.heap.size w w') : EntsOk w' G v l := ⟨h.1.fresh hB, fun a ha => (h.2 a ha).fresh hB⟩
def evL (e : Ev) : Bool := decide (e.kind.size ≤ 300) && decide (e.data.size ≤ 500)
def lightB (a : Ent) : Bool := decide (a.stream.size ≤ 300) && (decide (a.evs.length ≤ 20) && a.evs.all evL)
def smallB (l : List Ent) : Bool := decide (l.length ≤ 40) && l.all lightB
theorem smallB_at {l : List Ent} (h : smallB l = true) : l.length ≤ 40 ∧ ∀ a ∈ l, lightB a = true := by
  simpa [smallB] using h
theorem lightB_at {a : Ent} (h : lightB a = true) : a.stream.size ≤ 300 ∧ a.evs.length ≤ 20 ∧ ∀ e ∈ a.evs, e.kind.size ≤ 300 ∧ e.data.size ≤ 500 := by
  simpa [lightB, evL] using h
theorem EntsOk.ents {w : World} {G : Nat → Prop} {v : Value} {l : List Ent} (h : EntsOk w G v l) (hs : smallB l = true) : Ents w G v l := ⟨h.1, fun a ha => by
  obtain ⟨h1, h2, h3, _⟩ := h.2 a ha
  exact ⟨h1, h2, h3, by have := (lightB_at ((smallB_at hs).2 a ha)).2.1; omega⟩⟩
theorem all_take_succ {α : Type} {p : α → Bool} {l : List α} {k : Nat} (hk : k < l.length) (h : (l.take k).all p = true) (hp : p l[k] = true) : (l.take (k + 1)).all p = true := by
  rw [List.take_succ_eq_append_getElem hk, List.all_append, h]; simp [hp]
theorem all_false_of {α : Type} {p : α → Bool} {l : List α} {k : Nat} (hk : k < l.length) (hp : p l[k] = false) : l.all p = false := by
  rw [List.all_eq_false]
  exact ⟨l[k], List.getElem_mem hk, by simp [hp]⟩

set_option maxRecDepth 8000 in
set_option maxHeartbeats 1000000 in
theorem light_any (w : World) (G : Nat → Prop) (a : Ent) (h : EntOk w G a) :
    Calls Tryd.prog 14 #[.agg #[.int .i64 a.pos, .int .i64 a.epoch, .string a.stream, .int .i64 a.expect, .int .i64 a.session, .int .i64 a.seq, a.evv]] w fun x w' => x = .returned (.bool (lightB a)) ∧ Below w.heap.size w w' := by
  obtain ⟨A, c, hv, hA1, hA2⟩ := h.1.shape
  unfold maxLen at hA2
  have hst := h.2.2.1
  rw [hv]
  have hS := h.1
  rw [hv] at hS
  have hB0 : Below w.heap.size w (w.alloc (.cells #[.int .i64 a.pos, .int .i64 a.epoch, .string a.stream, .int .i64 a.expect, .int .i64 a.session, .int .i64 a.seq, .slice A a.evs.length c] 29)) := (Below.refl _ w).alloc (Nat.le_refl _) _
  have hblk := heap_alloc_new w (.cells #[.int .i64 a.pos, .int .i64 a.epoch, .string a.stream, .int .i64 a.expect, .int .i64 a.session, .int .i64 a.seq, .slice A a.evs.length c] 29)
  have HS := Lib.hid hS
  have HE := Lib.hid h
  clear hv hS h
  go_enter Tryd.func14, Tryd.ntmps14
  go_upto_region 1 with (fail)
  generalize w.alloc (.cells #[.int .i64 a.pos, .int .i64 a.epoch, .string a.stream, .int .i64 a.expect, .int .i64 a.session, .int .i64 a.seq, .slice A a.evs.length c] 29) = w1 at hB0 hblk ⊢
  have y2 : w1.cell? ⟨w.heap.size, 2, none⟩ = some (.string a.stream) := cell_of_row w1 _ 2 _ _ _ hblk
  have y6 : w1.cell? ⟨w.heap.size, 6, none⟩ = some (.slice A a.evs.length c) := cell_of_row w1 _ 6 _ _ _ hblk
  have HB0 := Lib.hid hB0
  clear hB0 hblk
  by_cases h1 : 300 < a.stream.size
  · have d1 : decide ((a.stream.size : Int) > 300) = true := by simp; omega
    go_wp2_with fail
    go_ret
    exact ⟨by rw [show lightB a = false by simp [lightB]; omega]; rfl, HB0.out⟩
  have d1 : decide ((a.stream.size : Int) > 300) = false := by simp; omega
  by_cases h2 : 20 < a.evs.length
  · have d2 : decide ((a.evs.length : Int) > 20) = true := by simp; omega
    go_wp2_with fail
    go_ret
    exact ⟨by rw [show lightB a = false by simp [lightB]; omega]; rfl, HB0.out⟩
  have d2 : decide ((a.evs.length : Int) > 20) = false := by simp; omega
  go_wp2_with fail
  go_loop [3] (fun i => ∃ k : Nat, k ≤ a.evs.length ∧ i = .int .i64 k ∧ (a.evs.take k).all evL = true) (fun i => a.evs.length - (intOf i).toNat)
  case atStart => exact ⟨0, Nat.zero_le _, rfl, rfl⟩
  case round =>
    obtain ⟨k, hk, rfl, ht⟩ := hrel
    have HTk := Lib.hid ht
    clear ht
    by_cases hlt : k < a.evs.length
    · obtain ⟨b, o, rfl, _, _, hxx⟩ := (HS.out.fresh HB0.out).cell_ hlt
      have x0 := hxx 0 _ rfl
      have x1 := hxx 1 _ rfl
      simp only [Nat.add_zero] at x0
      have hok := HE.out.2.1 _ (List.getElem_mem hlt)
      obtain ⟨hok1, hok2⟩ := hok
      clear hxx
      by_cases h3 : 300 < a.evs[k].kind.size
      · have d3 : decide ((a.evs[k].kind.size : Int) > 300) = true := by simp; omega
        go_wp2_with fail
        go_ret
        have : a.evs.all evL = false := all_false_of hlt (by simp [evL]; omega)
        exact ⟨by rw [show lightB a = false by simp [lightB, this]]; rfl, HB0.out⟩
      have d3 : decide ((a.evs[k].kind.size : Int) > 300) = false := by simp; omega
      by_cases h4 : 500 < a.evs[k].data.size
      · have d4 : decide ((a.evs[k].data.size : Int) > 500) = true := by simp; omega
        go_wp2_with fail
        go_ret
        have : a.evs.all evL = false := all_false_of hlt (by simp [evL]; omega)
        exact ⟨by rw [show lightB a = false by simp [lightB, this]]; rfl, HB0.out⟩
      have d4 : decide ((a.evs[k].data.size : Int) > 500) = false := by simp; omega
      go_wp2_with fail
      go_round
      case rel => exact ⟨k + 1, hlt, by go_num, all_take_succ hlt HTk.out (by simp [evL]; omega)⟩
      case measure => simp [intOf]; omega
    · have hkd : k = a.evs.length := by omega
      subst hkd
      go_wp2_with fail
      go_ret
      have := HTk.out
      rw [List.take_length] at this
      exact ⟨by rw [show lightB a = true by simp only [lightB, this, Bool.and_true, Bool.and_eq_true, decide_eq_true_eq]; omega]; rfl, HB0.out⟩

set_option maxRecDepth 8000 in
set_option maxHeartbeats 1000000 in
theorem small_any (w : World) (G : Nat → Prop) (v : Value) (l : List Ent) (h : EntsOk w G v l) :
    Calls Tryd.prog 13 #[v] w fun x w' => x = .returned (.bool (smallB l)) ∧ Below w.heap.size w w' := by
  obtain ⟨A, c, rfl, hA1, hA2⟩ := h.1.shape
  unfold maxLen at hA2
  have HA := Lib.hid h
  clear h
  by_cases h40 : 40 < l.length
  · have d1 : decide ((l.length : Int) > 40) = true := by simp; omega
    go_enter Tryd.func13, Tryd.ntmps13
    go_wp2_with fail
    go_ret
    exact ⟨by rw [show smallB l = false by simp [smallB]; omega]; rfl, Below.refl _ _⟩
  have d1 : decide ((l.length : Int) > 40) = false := by simp; omega
  go_enter Tryd.func13, Tryd.ntmps13
  go_wp2_with fail
  go_loopw [3, 4] (fun i _ wr => ∃ k : Nat, k ≤ l.length ∧ i = .int .i64 k ∧ (l.take k).all lightB = true ∧ Below w.heap.size w wr) (fun i _ _ => l.length - (intOf i).toNat)
  case atStart => exact ⟨0, Nat.zero_le _, rfl, rfl, Below.refl _ _⟩
  case round =>
    obtain ⟨k, hk, rfl, ht, hB⟩ := hrel
    have HTk := Lib.hid ht
    have HB := Lib.hid hB
    clear ht hB
    by_cases hlt : k < l.length
    · have hAr := HA.out.fresh HB.out
      obtain ⟨b, o, rfl, _, _, hxx⟩ := hAr.1.cell_ hlt
      have hbo := hAr.2 l[k] (List.getElem_mem hlt)
      obtain ⟨B, d, hv, _, _⟩ := hbo.1.shape
      have x0 := hxx 0 _ rfl
      have x1 := hxx 1 _ rfl
      have x2 := hxx 2 _ rfl
      have x3 := hxx 3 _ rfl
      have x4 := hxx 4 _ rfl
      have x5 := hxx 5 _ rfl
      have x6 := hxx 6 _ rfl
      have hli := light_any wr G l[k] hbo
      rw [hv] at x6 hli
      simp only [Nat.add_zero] at x0
      have HLI := Lib.hid hli
      clear hxx hAr hbo hv hli
      go_wp2_with fail
      refine HLI.out.mono ?_
      rintro x w2 ⟨rfl, hB2⟩
      have HB2 := Lib.hid (HB.out.trans (hB2.mono HB.out.size))
      clear hB2 x0 x1 x2 x3 x4 x5 x6
      cases hlb : lightB l[k]
      · go_wp2_with fail
        go_ret
        have : l.all lightB = false := all_false_of hlt hlb
        exact ⟨by rw [show smallB l = false by simp [smallB, this]]; rfl, HB2.out⟩
      · go_wp2_with fail
        go_roundw
        case rel => exact ⟨k + 1, hlt, by go_num, all_take_succ hlt HTk.out hlb, HB2.out⟩
        case measure => simp [intOf]; omega
    · have hkd : k = l.length := by omega
      subst hkd
      go_wp2_with fail
      go_ret
      have := HTk.out
      rw [List.take_length] at this
      exact ⟨by rw [show smallB l = true by simp only [smallB, this, Bool.and_true, decide_eq_true_eq]; omega]; rfl, HB.out⟩

/-! ### cuts, in plain words -/
theorem follows_cons {a : Ent} {l : List Ent} {pos ep : Int} (h : followsB (a :: l) pos ep = true) : a.pos = wrap64 (pos + 1) ∧ ep ≤ a.epoch ∧ rightB a = true ∧ followsB l a.pos a.epoch = true := by
  have h : (if (a.pos != wrap64 (pos + 1)) = true then false else if a.epoch < ep then false else if rightB a = false then false else followsB l a.pos a.epoch) = true := h
  by_cases h1 : (a.pos != wrap64 (pos + 1)) = true
  · rw [if_pos h1] at h; cases h
  · rw [if_neg h1] at h
    by_cases h2 : a.epoch < ep
    · rw [if_pos h2] at h; cases h
    · rw [if_neg h2] at h
      by_cases h3 : rightB a = false
      · rw [if_pos h3] at h; cases h
      · rw [if_neg h3] at h
        exact ⟨by simpa using h1, by omega, by simpa using h3, h⟩
theorem right_pos {a : Ent} (h : rightB a = true) : 1 ≤ a.pos ∧ a.pos ≤ 274877906944 := by
  simp only [rightB, numB, Bool.and_eq_true, decide_eq_true_eq] at h
  exact h.1
theorem follows_take {l : List Ent} {pos ep : Int} (h : followsB l pos ep = true) (k : Nat) : followsB (l.take k) pos ep = true := by
  induction l generalizing pos ep k with
  | nil => simp; exact h
  | cons a l ih =>
    cases k with
    | zero => rfl
    | succ k =>
      obtain ⟨h1, h2, h3, h4⟩ := follows_cons h
      show (if (a.pos != wrap64 (pos + 1)) = true then false else if a.epoch < ep then false else if rightB a = false then false else followsB (l.take k) a.pos a.epoch) = true
      rw [if_neg (by rw [← h1]; simp), if_neg (by omega), if_neg (by rw [h3]; decide)]
      exact ih h4 k
theorem follows_drop {l : List Ent} {pos ep : Int} (h : followsB l pos ep = true) {k : Nat} (hk : k < l.length) : followsB (l.drop (k + 1)) l[k].pos l[k].epoch = true := by
  induction l generalizing pos ep k with
  | nil => simp at hk
  | cons a l ih =>
    obtain ⟨_, _, _, h4⟩ := follows_cons h
    cases k with
    | zero => exact h4
    | succ k => exact ih h4 (by simpa using hk)
theorem follows_pos {l : List Ent} {pos ep : Int} (h : followsB l pos ep = true) (h0 : 0 ≤ pos) (h1 : pos ≤ 274877906944) : ∀ i (hi : i < l.length), l[i].pos = pos + 1 + i ∧ rightB l[i] = true := by
  induction l generalizing pos ep with
  | nil => intro i hi; simp at hi
  | cons a l ih =>
    obtain ⟨h2, _, h3, h4⟩ := follows_cons h
    have hp : a.pos = pos + 1 := by rw [h2]; unfold wrap64; omega
    intro i hi
    cases i with
    | zero => exact ⟨by simpa using hp, h3⟩
    | succ i =>
      have hi' : i < l.length := by simpa using hi
      have := ih h4 (by have := right_pos h3; omega) (right_pos h3).2 i hi'
      exact ⟨by show l[i].pos = _; rw [this.1, hp]; omega, this.2⟩
/-- Entries that do not go on: a place is not the next one. -/
theorem follows_gap {l : List Ent} {pos ep : Int} (h0 : 0 ≤ pos) (h1 : pos ≤ 274877906944) {i : Nat} (hi : i < l.length) (hg : l[i].pos ≠ pos + 1 + i) : followsB l pos ep = false := by
  cases h : followsB l pos ep
  · rfl
  · exact absurd (follows_pos h h0 h1 i hi).1 hg
end Go.Proofs.YtimfoijajafdpaaDoor
