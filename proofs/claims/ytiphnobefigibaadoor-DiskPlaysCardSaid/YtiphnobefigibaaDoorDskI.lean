/- DiskRoom: what the statement's function does: it answers true. -/
import Derived.Test.YtiphnobefigibaaDoorDskH
import Derived.Test.YtiphnobefigibaaDoorBlS
namespace Go.Proofs.YtiphnobefigibaaDoor
open Go.RowKit Go.Bl
attribute [local go_sem ↓] Go.wp_at_zero Go.wp_at_succ

def zeros (k : Nat) : ByteArray := ⟨Array.replicate k 0⟩
def alpha : ByteArray := ⟨#[97, 98, 99, 100, 101, 102, 103, 104, 105, 106, 107, 108, 109, 110, 111, 112, 113, 114, 115, 116, 117, 118, 119, 120, 121, 122, 48, 49, 50, 51]⟩
def nameOf (i : Nat) : ByteArray := (⟨#[102]⟩ : ByteArray) ++ alpha.extract i (i + 1)
theorem names_all : ((List.range 30).all fun i => nameB (nameOf i) && decide ((nameOf i).size ≤ 10)) = true := by kernel_rfl
theorem name_rest : nameB ⟨#[114, 101, 115, 116]⟩ = true := by kernel_rfl
theorem nameOf_ok {i : Nat} (h : i < 30) : nameB (nameOf i) = true ∧ (nameOf i).size ≤ 10 := by
  have := List.all_eq_true.1 names_all i (List.mem_range.2 h)
  simpa using this
theorem zeros_size (k : Nat) : (zeros k).size = k := by show (Array.replicate k (0 : UInt8)).size = k; simp

theorem app_yes {d : Dk} {x s : ByteArray} (hn : nameB x = true) (hl : d.L.length < 40) (hr : ¬ d.room - d.used < s.size) (hnd : (d.L.map Fl.name).Nodup) : (d.app x s).1 = 0 ∧ (d.app x s).2.used = d.used + s.size ∧ (d.app x s).2.room = d.room ∧ (d.app x s).2.L.length ≤ d.L.length + 1 := by
  unfold Dk.app
  rw [if_neg (by rw [hn]; decide)]
  cases hf : d.find x with
  | none =>
    show ((if _ then _ else _ : Int × Dk)).1 = 0 ∧ _
    rw [if_neg (by omega), if_neg hr]
    refine ⟨rfl, ?_, rfl, by show (d.L ++ _).length ≤ _; simp⟩
    show (total (d.L ++ [⟨x, s, 0⟩]) : Int) = (total d.L : Int) + _
    rw [total_append]
    show ((total d.L + (s.size + 0) : Nat) : Int) = _
    omega
  | some f =>
    obtain ⟨hfL, rfl⟩ := find_some hf
    show ((if _ then _ else _ : Int × Dk)).1 = 0 ∧ _
    rw [if_neg hr]
    refine ⟨rfl, ?_, rfl, by show (updL _ _ d.L).length ≤ _; unfold updL; rw [List.length_map]; omega⟩
    show (total (updL f.name (growF s) d.L) : Int) = (total d.L : Int) + _
    rw [total_grow s d.L f hnd hfL]
    omega
theorem app_full {d : Dk} {x s : ByteArray} (hn : nameB x = true) (hl : d.L.length < 40) (hr : d.room - d.used < s.size) : d.app x s = (8, d) := by
  unfold Dk.app
  rw [if_neg (by rw [hn]; decide)]
  cases hf : d.find x with
  | none =>
    show (if _ then _ else _) = _
    rw [if_neg (by omega), if_pos hr]
  | some f =>
    show (if _ then _ else _) = _
    rw [if_pos hr]

theorem zerosAt {w : World} {b : Nat} (h : ∀ j, j < 2000 → w.cell? ⟨b, j, none⟩ = some (.int .u8 0)) {k : Nat} (hk : k ≤ 2000) : BytesAt w b 0 (zeros k) := by
  intro j u hu
  have hj : j < k := by have := (Array.getElem?_eq_some_iff.1 hu).1; simpa [zeros] using this
  have h0 : u = 0 := by
    have h1 : (Array.replicate k (0 : UInt8))[j]? = some u := hu
    rw [Array.getElem?_replicate, if_pos hj] at h1
    exact (Option.some.inj h1).symm
  subst h0
  rw [Nat.zero_add]
  exact h j (by omega)
theorem infoU8 : (Tryd.prog.info? 5).map (fun i => (i.zero, i.size, i.bytes)) = some (some (.int .u8 0), 1, 1) := by kernel_rfl
theorem make_zeros (w : World) : ∃ w', (Instr.makeSlice 29 (.int .i64 2000) (.int .i64 2000)).run Tryd.prog w = .ok (.slice (some ⟨w.heap.size, 0, none⟩) 2000 2000) w' ∧ Below w.heap.size w w' ∧ w'.heap.size = w.heap.size + 1 ∧ ∀ j, j < 2000 → w'.cell? ⟨w.heap.size, j, none⟩ = some (.int .u8 0) := by
  obtain ⟨i, hi, h1, h2, h3⟩ := info_parts infoU8
  have hr := run_make (P := Tryd.prog) w 29 5 i (.int .u8 0) Tryd.underlying29 hi h1 .i64 .i64 2000 2000 (by decide) (by decide) (by rw [h3]; decide) (by decide)
  refine ⟨_, hr, (Below.refl _ w).alloc (Nat.le_refl _) _, World.size_alloc _ _, fun j hj => ?_⟩
  rw [cell_of_row _ _ j _ _ _ (heap_alloc_new w _), h2, ← Array.getElem?_toList]
  show (madeCells #[Value.int .u8 0] _).toList[j]? = _
  rw [toList_madeCells_one, List.getElem?_replicate, if_pos (by simpa using hj)]
theorem del_used {d : Dk} (hn : (d.L.map Fl.name).Nodup) {f : Fl} (hf : f ∈ d.L) : (d.del f.name).used = d.used - f.bytes.size := by
  have := total_del hn hf
  show (total (d.L.filter _) : Int) = (total d.L : Int) - _
  omega

def RoomRel (w : World) (p gx : Nat) (n : Int) (nn : Nat) (u i : Value) (wr : World) : Prop :=
  ∃ (k : Nat) (d : Dk), k ≤ nn ∧ i = .int .i64 k ∧ u = .int .i64 d.used ∧ d.room = n ∧ d.L.length ≤ k ∧ Dsk (fun z => z < w.heap.size ∨ z = gx) wr p d ∧ Below w.heap.size w wr ∧ (∀ j, j < 2000 → wr.cell? ⟨gx, j, none⟩ = some (.int .u8 0)) ∧ gx < wr.heap.size

set_option maxRecDepth 100000 in
set_option maxHeartbeats 4000000 in
theorem room_any (w : World) (hT : Tabs w) (G : Nat → Prop) (room : Int) (hr : i64 room) (sv : Value) (sizes : List Int) (hs : Sl w G 1 intc sv sizes) (hi : ∀ n ∈ sizes, i64 n) (hG : ∀ k, G k → k < w.heap.size) :
    Calls Tryd.prog 3 #[.int .i64 room, sv] w fun e w' => e = .returned (.bool true) ∧ Below w.heap.size w w' := by
  obtain ⟨A, c, rfl, hA1, hA2⟩ := hs.shape
  unfold maxLen at hA2
  have hmn := @run_gmin Tryd.prog
  have HT := Lib.hid hT
  have HS := Lib.hid hs
  have HI := Lib.hid hi
  clear hT hs hi
  go_enter Tryd.func3, Tryd.ntmps3
  go_wp2_with fail
  refine (shown_any w HT.out).mono ?_
  rintro e w1 ⟨rfl, hB1⟩
  have HB1 := Lib.hid hB1
  clear hB1
  go_wp2_with fail
  refine (pick_any w1 room 2000 hr (by decide)).mono ?_
  rintro e w2 ⟨rfl, rfl⟩
  obtain ⟨r1, r2⟩ := pickOf_range room (n := 2000) (by decide)
  obtain ⟨N, hN⟩ : ∃ N : Nat, pickOf room 2000 = (N : Int) := ⟨(pickOf room 2000).toNat, by omega⟩
  rw [hN] at r1 r2 ⊢
  clear hN hr
  go_wp2_with fail
  have hc := newD w1 (fun k => k < w.heap.size) (fun k hk => Nat.lt_of_lt_of_le hk HB1.out.size) (1 + (N : Int)) (by omega) (by omega)
  refine hc.mono ?_
  clear hc
  rintro e w2 ⟨p, rfl, hD2, hB2⟩
  have HD2 := Lib.hid hD2
  have HB2 := Lib.hid (HB1.out.trans (hB2.mono HB1.out.size))
  clear hD2 hB2
  by_cases h30 : 30 < sizes.length
  · have d30 : decide ((30 : Int) < (sizes.length : Int)) = true := by simp; omega
    go_wp2_with fail
    go_ret
    exact ⟨rfl, HB2.out⟩
  · have d30 : decide ((30 : Int) < (sizes.length : Int)) = false := by simp; omega
    obtain ⟨w3, hrun, hB3, hz3, hcz⟩ := make_zeros w2
    have hpl := HD2.out.plt
    have HZ := Lib.hid hcz
    have HB3 := Lib.hid (HB2.out.trans (hB3.mono HB2.out.size))
    have HD3 := Lib.hid ((HD2.out.more (X' := fun z => z < w.heap.size ∨ z = w2.heap.size) (fun k hk => hk.elim .inl (fun e => .inr (by omega)))).fresh hB3)
    clear hB3 hcz
    have hgl : w2.heap.size < w3.heap.size := by omega
    obtain ⟨gx, hgx⟩ : ∃ gx, w2.heap.size = gx := ⟨_, rfl⟩
    rw [hgx] at hrun HZ HD3 hgl
    clear hpl hz3 HD2 HB2 hgx
    go_wp2_with fail
    go_loopw [10, 11, 12, 13, 14, 15, 16] (fun u i _ _ _ _ _ wr => RoomRel w p gx (1 + (N : Int)) sizes.length u i wr) (fun _ i _ _ _ _ _ _ => sizes.length - (intOf i).toNat)
    case atStart => exact ⟨0, _, Nat.zero_le _, rfl, rfl, rfl, Nat.le_refl _, HD3.out, HB3.out, HZ.out, hgl⟩
    case round =>
      obtain ⟨k, d, hk, rfl, rfl, hroom, hlen, hD, hB, hZ, hgl⟩ := hrel
      have hok := hD.ok
      have hu0 : 0 ≤ d.used := by unfold Dk.used; omega
      have hu1 : d.used ≤ 1 + (N : Int) := by rw [← hroom]; exact hok.used
      have HD := Lib.hid hD
      have HB := Lib.hid hB
      have HZ := Lib.hid hZ
      have HR := Lib.hid hroom
      have HL := Lib.hid hlen
      clear hD hB hZ hroom hok HD3 HB3 hlen
      have hcv : ∀ (W : World) (K : Nat), K ≤ 2000 → (∀ j, j < 2000 → W.cell? ⟨gx, j, none⟩ = some (.int .u8 0)) → (convert 29 9 (.slice (some ⟨gx, 0, none⟩) K 2000)).run Tryd.prog W = .ok (.string (zeros K)) W := fun W K hK hc =>
        from_bytes (P := Tryd.prog) Tryd.underlying29 Tryd.underlying5 Tryd.underlying9 W gx 0 2000 K (zeros K) (zeros_size K) (zerosAt hc hK)
      by_cases hlt : k < sizes.length
      · have hk30 : k < 30 := by omega
        obtain ⟨b, o, rfl, hGb, hbl, hxx⟩ := (HS.out.keep (Keeps.of_below HB.out) (fun q hq hg hx => by have := hG q hg; omega)).cell_ hlt
        have x0 := hxx 0 _ rfl
        simp only [Nat.mul_one, Nat.add_zero] at x0
        clear hxx
        go_wp2_with fail
        refine (pick_any wr sizes[k] 500 (HI.out _ (List.getElem_mem hlt)) (by decide)).mono ?_
        rintro e w4 ⟨rfl, rfl⟩
        obtain ⟨s1, s2⟩ := pickOf_range sizes[k] (n := 500) (by decide)
        obtain ⟨K, hK⟩ : ∃ K : Nat, pickOf sizes[k] 500 = (K : Int) := ⟨(pickOf sizes[k] 500).toNat, by omega⟩
        rw [hK] at s1 s2 ⊢
        have hK5 : K < 500 := by omega
        have hcvK := hcv wr K (by omega) HZ.out
        have hnm : (⟨#[102]⟩ : ByteArray) ++ (⟨#[97, 98, 99, 100, 101, 102, 103, 104, 105, 106, 107, 108, 109, 110, 111, 112, 113, 114, 115, 116, 117, 118, 119, 120, 121, 122, 48, 49, 50, 51]⟩ : ByteArray).extract k (k + 1) = nameOf k := rfl
        obtain ⟨n1, n2⟩ := nameOf_ok hk30
        clear hK
        go_wp2_with fail
        have hc := appendD wr _ (fun q hq => by rcases hq with hq | hq; exact Nat.lt_of_lt_of_le hq HB.out.size; omega) (HT.out.below HB.out HT.out.lt) p d HD.out (nameOf k) (zeros K) (by omega) (by rw [zeros_size]; omega)
        have hrr := HR.out
        have hll := HL.out
        by_cases hfull : d.room - d.used < (zeros K).size
        · rw [app_full n1 (by omega) hfull] at hc
          refine hc.mono ?_
          clear hc
          rintro e w6 ⟨rfl, hD6, hK6⟩
          rw [zeros_size, hrr] at hfull
          obtain ⟨d', hd'⟩ : ∃ d', d' = d := ⟨_, rfl⟩
          rw [← hd'] at hD6
          have hZ6 : ∀ j, j < 2000 → w6.cell? ⟨gx, j, none⟩ = some (.int .u8 0) := fun j hj => (hK6.cell (a := ⟨gx, j, none⟩) hgl (fun h => h (.inr rfl))).trans (HZ.out j hj)
          have hgl6 : gx < w6.heap.size := Nat.lt_of_lt_of_le hgl hK6.size
          have HB6 := Lib.hid (HB.out.trans (below_notB hK6 HB.out.size (fun _ h => .inl h)))
          have HD6 := Lib.hid hD6
          have HZ6 := Lib.hid hZ6
          have HR6 : Hid (d'.room = 1 + (N : Int)) := Lib.hid (by rw [hd']; exact hrr)
          have HL6 : Hid (d'.L.length ≤ k + 1) := Lib.hid (by rw [hd']; omega)
          obtain ⟨u', hu'⟩ : ∃ u', d'.used = u' := ⟨_, rfl⟩
          have hdu : d.used = u' := by rw [← hu', hd']
          rw [hdu] at hfull hu0 hu1 ⊢
          have df : decide (u' + (K : Int) ≤ 1 + (N : Int)) = false := by simp; omega
          clear hD6 hK6 hZ6 hd' hrr hll HR HL HD HB HZ x0 hdu hnm hcvK hcv
          by_cases h4 : k % 4 = 3
          · have d4 : ((k : Int) % 4 == 3) = true := by simp; omega
            go_wp2_with fail
            refine (readD w6 _ p d' HD6.out (nameOf k) (by unfold maxLen; omega)).mono ?_
            rintro e w7 ⟨he, rfl⟩
            cases hf : d'.find (nameOf k) with
            | none =>
              rw [hf] at he
              obtain rfl : e = .returned (.tuple #[.string ⟨#[]⟩, .int .i64 6]) := he
              go_wp2_with fail
              have hc := deleteD w6 _ p d' HD6.out (nameOf k) (by unfold maxLen; omega)
              rw [if_pos hf, del_none hf] at hc
              refine hc.mono ?_
              clear hc
              rintro e w7 ⟨rfl, hD7, hK7⟩
              have HB7 := Lib.hid (HB6.out.trans (below_notB hK7 HB6.out.size (fun _ h => .inl h)))
              have hZ7 : ∀ j, j < 2000 → w7.cell? ⟨gx, j, none⟩ = some (.int .u8 0) := fun j hj => (hK7.cell (a := ⟨gx, j, none⟩) hgl6 (fun h => h (.inr rfl))).trans (HZ6.out j hj)
              have hgl7 : gx < w7.heap.size := Nat.lt_of_lt_of_le hgl6 hK7.size
              have HZ7 := Lib.hid hZ7
              have HD7 := Lib.hid hD7
              clear hK7 hZ7 hD7
              go_wp2_with fail
              refine (usedD w7 _ p d' HD7.out).mono ?_
              rintro e w8 ⟨rfl, rfl⟩
              rw [hu']
              go_wp2_with fail
              go_roundw
              case rel => exact ⟨k + 1, d', hlt, by go_num, by rw [hu'], HR6.out, HL6.out, HD7.out, HB7.out, HZ7.out, hgl7⟩
              case measure => simp [intOf]; omega
            | some f =>
              rw [hf] at he
              obtain rfl : e = .returned (.tuple #[.string f.bytes, .int .i64 0]) := he
              obtain ⟨hfL, hfx⟩ := find_some hf
              have hfb := total_mem hfL
              have hdu := del_used HD6.out.nodup hfL
              rw [hfx] at hdu
              have hfu : (f.bytes.size : Int) ≤ u' := by rw [← hu']; unfold Dk.used; omega
              have HDU := Lib.hid hdu
              clear hdu
              go_wp2_with fail
              have hc := deleteD w6 _ p d' HD6.out (nameOf k) (by unfold maxLen; omega)
              rw [if_neg (by rw [hf]; simp)] at hc
              refine hc.mono ?_
              clear hc
              rintro e w7 ⟨rfl, hD7, hK7⟩
              have HB7 := Lib.hid (HB6.out.trans (below_notB hK7 HB6.out.size (fun _ h => .inl h)))
              have hZ7 : ∀ j, j < 2000 → w7.cell? ⟨gx, j, none⟩ = some (.int .u8 0) := fun j hj => (hK7.cell (a := ⟨gx, j, none⟩) hgl6 (fun h => h (.inr rfl))).trans (HZ6.out j hj)
              have hgl7 : gx < w7.heap.size := Nat.lt_of_lt_of_le hgl6 hK7.size
              have HZ7 := Lib.hid hZ7
              have HD7 := Lib.hid hD7
              clear hK7 hZ7 hD7
              go_wp2_with fail
              refine (usedD w7 _ p _ HD7.out).mono ?_
              rintro e w8 ⟨rfl, rfl⟩
              rw [HDU.out, hu']
              go_wp2_with fail
              go_roundw
              case rel => exact ⟨k + 1, d'.del (nameOf k), hlt, by go_num, by rw [HDU.out, hu'], HR6.out, Nat.le_trans (List.length_filter_le _ _) HL6.out, HD7.out, HB7.out, HZ7.out, hgl7⟩
              case measure => simp [intOf]; omega
          · have d4 : ((k : Int) % 4 == 3) = false := by simp; omega
            go_wp2_with fail
            refine (usedD w6 _ p d' HD6.out).mono ?_
            rintro e w7 ⟨rfl, rfl⟩
            rw [hu']
            go_wp2_with fail
            go_roundw
            case rel => exact ⟨k + 1, d', hlt, by go_num, by rw [hu'], HR6.out, HL6.out, HD6.out, HB6.out, HZ6.out, hgl6⟩
            case measure => simp [intOf]; omega
        · obtain ⟨y1, y2, y3, y4⟩ := app_yes n1 (by omega) hfull HD.out.nodup
          rw [y1] at hc
          refine hc.mono ?_
          clear hc y1
          rintro e w6 ⟨rfl, hD6, hK6⟩
          rw [zeros_size, hrr] at hfull
          rw [zeros_size] at y2
          obtain ⟨d', hd'⟩ : ∃ d', (d.app (nameOf k) (zeros K)).2 = d' := ⟨_, rfl⟩
          rw [hd'] at hD6 y2 y3 y4
          have hZ6 : ∀ j, j < 2000 → w6.cell? ⟨gx, j, none⟩ = some (.int .u8 0) := fun j hj => (hK6.cell (a := ⟨gx, j, none⟩) hgl (fun h => h (.inr rfl))).trans (HZ.out j hj)
          have hgl6 : gx < w6.heap.size := Nat.lt_of_lt_of_le hgl hK6.size
          have HB6 := Lib.hid (HB.out.trans (below_notB hK6 HB.out.size (fun _ h => .inl h)))
          have HD6 := Lib.hid hD6
          have HZ6 := Lib.hid hZ6
          have HR6 : Hid (d'.room = 1 + (N : Int)) := Lib.hid (by rw [y3]; exact hrr)
          have HL6 : Hid (d'.L.length ≤ k + 1) := Lib.hid (by omega)
          obtain ⟨u', hu'⟩ : ∃ u', d'.used = u' := ⟨_, rfl⟩
          have huu : d.used + (K : Int) = u' := by rw [← hu', y2]
          have df : decide (u' ≤ 1 + (N : Int)) = true := by simp; omega
          clear hD6 hK6 hZ6 hd' hrr hll HR HL HD HB HZ x0 y2 y3 y4 hnm hcvK hcv
          by_cases h4 : k % 4 = 3
          · have d4 : ((k : Int) % 4 == 3) = true := by simp; omega
            go_wp2_with fail
            refine (readD w6 _ p d' HD6.out (nameOf k) (by unfold maxLen; omega)).mono ?_
            rintro e w7 ⟨he, rfl⟩
            cases hf : d'.find (nameOf k) with
            | none =>
              rw [hf] at he
              obtain rfl : e = .returned (.tuple #[.string ⟨#[]⟩, .int .i64 6]) := he
              go_wp2_with fail
              have hc := deleteD w6 _ p d' HD6.out (nameOf k) (by unfold maxLen; omega)
              rw [if_pos hf, del_none hf] at hc
              refine hc.mono ?_
              clear hc
              rintro e w7 ⟨rfl, hD7, hK7⟩
              have HB7 := Lib.hid (HB6.out.trans (below_notB hK7 HB6.out.size (fun _ h => .inl h)))
              have hZ7 : ∀ j, j < 2000 → w7.cell? ⟨gx, j, none⟩ = some (.int .u8 0) := fun j hj => (hK7.cell (a := ⟨gx, j, none⟩) hgl6 (fun h => h (.inr rfl))).trans (HZ6.out j hj)
              have hgl7 : gx < w7.heap.size := Nat.lt_of_lt_of_le hgl6 hK7.size
              have HZ7 := Lib.hid hZ7
              have HD7 := Lib.hid hD7
              clear hK7 hZ7 hD7
              go_wp2_with fail
              refine (usedD w7 _ p d' HD7.out).mono ?_
              rintro e w8 ⟨rfl, rfl⟩
              rw [hu']
              go_wp2_with fail
              go_roundw
              case rel => exact ⟨k + 1, d', hlt, by go_num, by rw [hu'], HR6.out, HL6.out, HD7.out, HB7.out, HZ7.out, hgl7⟩
              case measure => simp [intOf]; omega
            | some f =>
              rw [hf] at he
              obtain rfl : e = .returned (.tuple #[.string f.bytes, .int .i64 0]) := he
              obtain ⟨hfL, hfx⟩ := find_some hf
              have hfb := total_mem hfL
              have hdu := del_used HD6.out.nodup hfL
              rw [hfx] at hdu
              have hfu : (f.bytes.size : Int) ≤ u' := by rw [← hu']; unfold Dk.used; omega
              have HDU := Lib.hid hdu
              clear hdu
              go_wp2_with fail
              have hc := deleteD w6 _ p d' HD6.out (nameOf k) (by unfold maxLen; omega)
              rw [if_neg (by rw [hf]; simp)] at hc
              refine hc.mono ?_
              clear hc
              rintro e w7 ⟨rfl, hD7, hK7⟩
              have HB7 := Lib.hid (HB6.out.trans (below_notB hK7 HB6.out.size (fun _ h => .inl h)))
              have hZ7 : ∀ j, j < 2000 → w7.cell? ⟨gx, j, none⟩ = some (.int .u8 0) := fun j hj => (hK7.cell (a := ⟨gx, j, none⟩) hgl6 (fun h => h (.inr rfl))).trans (HZ6.out j hj)
              have hgl7 : gx < w7.heap.size := Nat.lt_of_lt_of_le hgl6 hK7.size
              have HZ7 := Lib.hid hZ7
              have HD7 := Lib.hid hD7
              clear hK7 hZ7 hD7
              go_wp2_with fail
              refine (usedD w7 _ p _ HD7.out).mono ?_
              rintro e w8 ⟨rfl, rfl⟩
              rw [HDU.out, hu']
              go_wp2_with fail
              go_roundw
              case rel => exact ⟨k + 1, d'.del (nameOf k), hlt, by go_num, by rw [HDU.out, hu'], HR6.out, Nat.le_trans (List.length_filter_le _ _) HL6.out, HD7.out, HB7.out, HZ7.out, hgl7⟩
              case measure => simp [intOf]; omega
          · have d4 : ((k : Int) % 4 == 3) = false := by simp; omega
            go_wp2_with fail
            refine (usedD w6 _ p d' HD6.out).mono ?_
            rintro e w7 ⟨rfl, rfl⟩
            rw [hu']
            go_wp2_with fail
            go_roundw
            case rel => exact ⟨k + 1, d', hlt, by go_num, by rw [hu'], HR6.out, HL6.out, HD6.out, HB6.out, HZ6.out, hgl6⟩
            case measure => simp [intOf]; omega
      · have hkd : k = sizes.length := by omega
        subst hkd
        have hcv2 := fun W => hcv W (1 + (N : Int) - d.used).toNat (by omega)
        obtain ⟨M, hM⟩ : ∃ M : Nat, 1 + (N : Int) - d.used = (M : Int) := ⟨(1 + (N : Int) - d.used).toNat, by omega⟩
        have hg1 : gmin 2000 (M : Int) = (M : Int) := by unfold gmin; omega
        have hg2 : gmin (1 + (N : Int)) (d.used + 2000) = 1 + (N : Int) := by unfold gmin; omega
        have hM2 : M ≤ 2000 := by omega
        have hcvM := hcv wr M hM2 HZ.out
        clear hcv2
        have hc := appendD wr _ (fun q hq => by rcases hq with hq | hq; exact Nat.lt_of_lt_of_le hq HB.out.size; omega) (HT.out.below HB.out HT.out.lt) p d HD.out ⟨#[114, 101, 115, 116]⟩ (zeros M) (by decide) (by rw [zeros_size]; omega)
        have hrr := HR.out
        have hll := HL.out
        obtain ⟨y1, y2, y3, y4⟩ := app_yes (d := d) (s := zeros M) name_rest (by omega) (by rw [zeros_size]; omega) HD.out.nodup
        rw [y1] at hc
        rw [zeros_size] at y2
        have y5 : (d.app ⟨#[114, 101, 115, 116]⟩ (zeros M)).2.used = 1 + (N : Int) := by rw [y2]; omega
        have HC := Lib.hid hc
        have HY5 := Lib.hid y5
        clear hc y1 y2 y3 y4 hrr hll y5 hcv
        go_wp2_with fail
        refine HC.out.mono ?_
        rintro e w6 ⟨rfl, hD6, hK6⟩
        have HB6 := Lib.hid (HB.out.trans (below_notB hK6 HB.out.size (fun _ h => .inl h)))
        have HD6 := Lib.hid hD6
        clear hD6 hK6 HC
        go_wp2_with fail
        refine (usedD w6 _ p _ HD6.out).mono ?_
        rintro e w7 ⟨rfl, rfl⟩
        rw [HY5.out]
        go_wp2_with fail
        go_ret
        exact ⟨rfl, HB6.out⟩
end Go.Proofs.YtiphnobefigibaaDoor
