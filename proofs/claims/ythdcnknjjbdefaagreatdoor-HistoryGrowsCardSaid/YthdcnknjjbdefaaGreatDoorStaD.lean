/- The statements' own helpers: fits, pick, first. No condition. -/
import Derived.Test.YthdcnknjjbdefaaGreatDoorRecA
import Derived.Test.YthdcnknjjbdefaaGreatDoorBlL
import Derived.Test.YthdcnknjjbdefaaGreatDoorBlE
import Derived.Test.YthdcnknjjbdefaaGreatDoorDedD
namespace Go.Proofs.YthdcnknjjbdefaaGreatDoor
open Go.RowKit Go.Bl
attribute [local go_sem ↓] Go.wp_at_zero Go.wp_at_succ

/-- What is known of any entry. -/
def EntOk (w : World) (G : Nat → Prop) (a : Ent) : Prop := Sl w G 2 evc a.evv a.evs ∧ (∀ e ∈ a.evs, EvOk e) ∧ a.stream.size ≤ 1000000000000000 ∧ (-9223372036854775808 ≤ a.pos ∧ a.pos ≤ 9223372036854775807)
theorem EntOk.fresh {w w' : World} {G : Nat → Prop} {a : Ent} (h : EntOk w G a) (hB : Below w.heap.size w w') : EntOk w' G a := ⟨h.1.fresh hB, h.2⟩
theorem EntOk.keep {w w' : World} {G H : Nat → Prop} {a : Ent} (h : EntOk w G a) (hk : Keeps H w w') (hd : ∀ k, k < w.heap.size → G k → ¬ H k) : EntOk w' G a := ⟨h.1.keep hk hd, h.2⟩
def EntsOk (w : World) (G : Nat → Prop) (v : Value) (l : List Ent) : Prop := Sl w G 7 entc v l ∧ ∀ a ∈ l, EntOk w G a
theorem EntsOk.fresh {w w' : World} {G : Nat → Prop} {v : Value} {l : List Ent} (h : EntsOk w G v l) (hB : Below w.heap.size w w') : EntsOk w' G v l := ⟨h.1.fresh hB, fun a ha => (h.2 a ha).fresh hB⟩
theorem EntsOk.keep {w w' : World} {G H : Nat → Prop} {v : Value} {l : List Ent} (h : EntsOk w G v l) (hk : Keeps H w w') (hd : ∀ k, k < w.heap.size → G k → ¬ H k) : EntsOk w' G v l := ⟨h.1.keep hk hd, fun a ha => (h.2 a ha).keep hk hd⟩
def evF (e : Ev) : Bool := decide (e.kind.size ≤ 300) && decide (e.data.size ≤ 500)
def entF (a : Ent) : Bool := decide (a.stream.size ≤ 300) && (decide (a.evs.length ≤ 20) && a.evs.all evF)
def fitsB (l : List Ent) : Bool := decide (l.length ≤ 40) && l.all entF
theorem fitsB_at {l : List Ent} (h : fitsB l = true) : l.length ≤ 40 ∧ ∀ a ∈ l, entF a = true := by simpa [fitsB] using h
theorem entF_at {a : Ent} (h : entF a = true) : a.stream.size ≤ 300 ∧ a.evs.length ≤ 20 ∧ ∀ e ∈ a.evs, e.kind.size ≤ 300 ∧ e.data.size ≤ 500 := by simpa [entF, evF] using h
theorem all_take_succ {α : Type} {p : α → Bool} {l : List α} {k : Nat} (hk : k < l.length) (h : (l.take k).all p = true) (hp : p l[k] = true) : (l.take (k + 1)).all p = true := by
  rw [List.take_succ_eq_append_getElem hk, List.all_append, h]; simp [hp]
theorem all_false_of {α : Type} {p : α → Bool} {l : List α} {k : Nat} (hk : k < l.length) (hp : p l[k] = false) : l.all p = false := by
  rw [List.all_eq_false]
  exact ⟨l[k], List.getElem_mem hk, by simp [hp]⟩

set_option maxRecDepth 8000 in
set_option maxHeartbeats 2000000 in
theorem fits_all (w : World) (G : Nat → Prop) (v : Value) (l : List Ent) (h : EntsOk w G v l) :
    Calls Tryz.prog 8 #[v] w fun x w' => x = .returned (.bool (fitsB l)) ∧ Below w.heap.size w w' := by
  obtain ⟨A, c, rfl, hA1, hA2⟩ := h.1.shape
  unfold maxLen at hA2
  have HA := Lib.hid h
  clear h
  by_cases h40 : 40 < l.length
  · have d1 : decide ((l.length : Int) > 40) = true := by simp; omega
    go_enter Tryz.func8, Tryz.ntmps8
    go_wp2_with fail
    go_ret
    exact ⟨by rw [show fitsB l = false by simp [fitsB]; omega]; rfl, Below.refl _ _⟩
  have d1 : decide ((l.length : Int) > 40) = false := by simp; omega
  go_enter Tryz.func8, Tryz.ntmps8
  go_wp2_with fail
  go_loopw [3, 4, 5] (fun i _ _ wr => ∃ k : Nat, k ≤ l.length ∧ i = .int .i64 k ∧ (l.take k).all entF = true ∧ Below w.heap.size w wr) (fun i _ _ _ => l.length - (intOf i).toNat)
  case atStart => exact ⟨0, Nat.zero_le _, rfl, rfl, Below.refl _ _⟩
  case round =>
    obtain ⟨k, hk, rfl, ht, hB⟩ := hrel
    have HTk := Lib.hid ht
    have HB := Lib.hid hB
    clear ht hB
    by_cases hlt : k < l.length
    · have hAr := HA.out.fresh HB.out
      obtain ⟨b, o, rfl, _, _, hxx⟩ := hAr.1.cell_ hlt
      have hbo := hAr.2 l[k] (List.getElem_mem hlt)
      have hok := hbo.2.1
      have hst := hbo.2.2.1
      have hfl : ∀ (h : entF l[k] = false), fitsB l = false := fun h => by
        have : l.all entF = false := all_false_of hlt h
        simp [fitsB, this]
      have HFL := Lib.hid hfl
      generalize hea : l[k] = a at *
      have HEA := Lib.hid hea
      obtain ⟨B, d, hv, _, _⟩ := hbo.1.shape
      have x2 := hxx 2 _ rfl
      have x3 := hxx 3 _ rfl
      have x4 := hxx 4 _ rfl
      have x5 := hxx 5 _ rfl
      have x6 := hxx 6 _ rfl
      rw [hv] at x6
      have hS := hbo.1
      rw [hv] at hS
      have HS := Lib.hid hS
      have HOK := Lib.hid hok
      clear hxx hAr hbo hv hS hea hok hfl
      have hB1 : Below wr.heap.size wr (wr.alloc (.cells #[.string a.stream, .int .i64 a.expect, .int .i64 a.session, .int .i64 a.seq, .slice B a.evs.length d] 32)) := (Below.refl _ wr).alloc (Nat.le_refl _) _
      have hblk := heap_alloc_new wr (.cells #[.string a.stream, .int .i64 a.expect, .int .i64 a.session, .int .i64 a.seq, .slice B a.evs.length d] 32)
      go_upto_region 7 with (fail)
      generalize wr.alloc (.cells #[.string a.stream, .int .i64 a.expect, .int .i64 a.session, .int .i64 a.seq, .slice B a.evs.length d] 32) = w1 at hB1 hblk ⊢
      have y0 : w1.cell? ⟨wr.heap.size, 0, none⟩ = some (.string a.stream) := cell_of_row w1 _ 0 _ _ _ hblk
      have y4 : w1.cell? ⟨wr.heap.size, 4, none⟩ = some (.slice B a.evs.length d) := cell_of_row w1 _ 4 _ _ _ hblk
      have HS1 := Lib.hid (HS.out.fresh hB1)
      have HB1 := Lib.hid (HB.out.trans (hB1.mono HB.out.size))
      clear hB1 hblk x2 x3 x4 x5 x6
      by_cases h1 : 300 < a.stream.size
      · have d1 : decide ((a.stream.size : Int) > 300) = true := by simp; omega
        have HF := Lib.hid (HFL.out (by simp [entF]; omega))
        clear h1
        go_wp2_with fail
        go_ret
        exact ⟨by rw [HF.out]; rfl, HB1.out⟩
      have d1 : decide ((a.stream.size : Int) > 300) = false := by simp; omega
      by_cases h2 : 20 < a.evs.length
      · have d2 : decide ((a.evs.length : Int) > 20) = true := by simp; omega
        have HF := Lib.hid (HFL.out (by simp [entF]; omega))
        clear h1 h2
        go_wp2_with fail
        go_ret
        exact ⟨by rw [HF.out]; rfl, HB1.out⟩
      have d2 : decide ((a.evs.length : Int) > 20) = false := by simp; omega
      go_wp2_with fail
      go_loop [5] (fun i => ∃ j : Nat, j ≤ a.evs.length ∧ i = .int .i64 j ∧ (a.evs.take j).all evF = true) (fun i => a.evs.length - (intOf i).toNat)
      case atStart => exact ⟨0, Nat.zero_le _, rfl, rfl⟩
      case round =>
        obtain ⟨j, hj, rfl, htj⟩ := hrel
        have HTj := Lib.hid htj
        clear htj
        by_cases hjt : j < a.evs.length
        · obtain ⟨b2, o2, rfl, _, _, hxx⟩ := HS1.out.cell_ hjt
          have x0 := hxx 0 _ rfl
          have x1 := hxx 1 _ rfl
          simp only [Nat.add_zero] at x0
          have hok := HOK.out _ (List.getElem_mem hjt)
          obtain ⟨hok1, hok2⟩ := hok
          clear hxx
          by_cases h3 : 300 < a.evs[j].kind.size
          · have d3 : decide ((a.evs[j].kind.size : Int) > 300) = true := by simp; omega
            go_wp2_with fail
            go_ret
            have : a.evs.all evF = false := all_false_of hjt (by simp [evF]; omega)
            exact ⟨by rw [HFL.out (by simp [entF, this])]; rfl, HB1.out⟩
          have d3 : decide ((a.evs[j].kind.size : Int) > 300) = false := by simp; omega
          by_cases h4 : 500 < a.evs[j].data.size
          · have d4 : decide ((a.evs[j].data.size : Int) > 500) = true := by simp; omega
            go_wp2_with fail
            go_ret
            have : a.evs.all evF = false := all_false_of hjt (by simp [evF]; omega)
            exact ⟨by rw [HFL.out (by simp [entF, this])]; rfl, HB1.out⟩
          have d4 : decide ((a.evs[j].data.size : Int) > 500) = false := by simp; omega
          go_wp2_with fail
          go_round
          case rel => exact ⟨j + 1, hjt, by go_num, all_take_succ hjt HTj.out (by simp [evF]; omega)⟩
          case measure => simp [intOf]; omega
        · have hjd : j = a.evs.length := by omega
          subst hjd
          go_wp2_with fail
          go_roundw
          case rel =>
            refine ⟨k + 1, hlt, by go_num, all_take_succ hlt HTk.out ?_, HB1.out⟩
            have := HTj.out
            rw [List.take_length] at this
            rw [HEA.out]
            simp only [entF, this, Bool.and_true, Bool.and_eq_true, decide_eq_true_eq]
            omega
          case measure => simp [intOf]; omega
    · have hkd : k = l.length := by omega
      subst hkd
      go_wp2_with fail
      go_ret
      have := HTk.out
      rw [List.take_length] at this
      exact ⟨by rw [show fitsB l = true by simp only [fitsB, this, Bool.and_true, decide_eq_true_eq]; omega]; rfl, HB.out⟩

theorem pick_any (w : World) (c : Int) (hc : -9223372036854775808 ≤ c ∧ c ≤ 9223372036854775807) (n : Nat) (h0 : 0 < n) (hn : n ≤ 1000000000) :
    Calls Tryz.prog 21 #[.int .i64 c, .int .i64 n] w fun x w' => ∃ j : Nat, j < n ∧ x = .returned (.int .i64 j) ∧ w = w' := by
  have hz : ((n : Int) == 0) = false := by rw [beq_eq_false_iff_ne]; omega
  have hz1 : ¬ ((n : Int) = 0) := by omega
  by_cases h1 : c < 0
  · obtain ⟨m, hm⟩ : ∃ m : Nat, -(c + 1) = (m : Int) := ⟨(-(c + 1)).toNat, by omega⟩
    have hw2 : wrap64 (c + 1) = c + 1 := by unfold wrap64; omega
    have hw : wrap64 (-(c + 1)) = (m : Int) := by unfold wrap64; omega
    have ht : -((c + 1).tmod (n : Int)) = ((m % n : Nat) : Int) := by
      rw [show c + 1 = -(m : Int) by omega, Int.neg_tmod, Int.neg_neg]
      rfl
    have HT := Lib.hid ht
    have hl := Lib.hid (Nat.mod_lt m h0)
    clear ht hm
    go_enter Tryz.func21, Tryz.ntmps21
    go_wp2
    go_ret
    exact ⟨m % n, hl.out, by rw [← HT.out]; rfl, rfl⟩
  · obtain ⟨m, rfl⟩ : ∃ m : Nat, c = (m : Int) := ⟨c.toNat, by omega⟩
    have ht : (m : Int).tmod (n : Int) = ((m % n : Nat) : Int) := rfl
    have HT := Lib.hid ht
    have hl := Lib.hid (Nat.mod_lt m h0)
    clear ht
    go_enter Tryz.func21, Tryz.ntmps21
    go_wp2
    go_ret
    exact ⟨m % n, hl.out, by rw [← HT.out]; rfl, rfl⟩

def kEv : Ev := ⟨⟨#[107]⟩, ⟨#[]⟩⟩
def firstE (pos seq expect : Int) (many : Nat) (v : Value) : Ent := ⟨pos, 1, ⟨#[115]⟩, expect, 1, seq, v, List.replicate many kEv⟩
theorem infoEvD : (Tryz.prog.info? 68).map (fun i => (i.zero, i.size, i.bytes)) = some (some (.agg #[.string ByteArray.empty, .string ByteArray.empty]), 2, 32) := by kernel_rfl
theorem evc_one_ (x : Ev) (u : Value) (h : u ∈ evc x) : u.oneCell' = true := by
  simp only [evc, List.mem_cons, List.not_mem_nil, or_false] at h
  rcases h with rfl | rfl <;> rfl
theorem elEv : El Tryz.prog 30 68 2 32 evc := ⟨Tryz.underlying30, ⟨_, infoEvD, rfl⟩, by decide, by decide, fun _ => rfl, evc_one_⟩

end Go.Proofs.YthdcnknjjbdefaaGreatDoor
