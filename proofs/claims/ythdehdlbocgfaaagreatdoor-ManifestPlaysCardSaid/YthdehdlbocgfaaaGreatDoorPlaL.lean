/- ManifestPlays: the walk. Under the stated premises on sizes. -/
import Derived.Test.YthdehdlbocgfaaaGreatDoorPlaJ
import Derived.Deep.RegionHeld3
import Derived.Test.YthdehdlbocgfaaaGreatDoorManF
import Derived.Test.YthdehdlbocgfaaaGreatDoorSameI
/- ManifestPlays: an act, of both disks. Under the stated premises on sizes. -/
namespace Go.Proofs.YthdehdlbocgfaaaGreatDoor
open Go.RowKit Go.Bl
attribute [local go_sem ↓] Go.wp_at_zero Go.wp_at_succ

theorem three_at (R : Nat) (h : R < 3) : ∃ F : ByteArray, F.size ≤ 100 ∧ (#[Value.string ⟨#[109, 97, 110, 105, 102, 101, 115, 116]⟩, .string ⟨#[101, 112, 111, 99, 104]⟩, .string ⟨#[116, 101, 109, 112]⟩] : Array Value)[R]? = some (.string F) := by
  match R, h with
  | 0, _ => exact ⟨_, by decide, rfl⟩
  | 1, _ => exact ⟨_, by decide, rfl⟩
  | 2, _ => exact ⟨_, by decide, rfl⟩
theorem deleteT' {X : Nat → Prop} {w : World} {p m : Nat} {d1 d2 : Dk} (h : Tw X w p m d1 d2) (x : ByteArray) (ev : Int) (he : (if d1.find x = none then (6 : Int) else 0) = ev) (hx : x.size ≤ 1000000) :
    Calls Tryz.prog 27 #[.pointer (some ⟨p, 0, none⟩), .string x] w fun e w' => e = .returned (.int .i64 ev) ∧ Tw X w' p m (d1.del x) d2 ∧ Kx X w w' := by
  have := deleteT h x hx
  rw [he] at this
  exact this
theorem deleteU' {X : Nat → Prop} {w : World} {p m : Nat} {d1 d2 : Dk} (h : Tw X w p m d1 d2) (hok : d2.Ok) (x : ByteArray) (ev : Int) (he : (if d2.find x = none then (6 : Int) else 0) = ev) :
    Calls Tryz.prog 28 #[.pointer (some ⟨m, 0, none⟩), .string x] w fun e w' => e = .returned (.int .i64 ev) ∧ Tw X w' p m d1 (d2.del x) ∧ Kx X w w' := by
  have := deleteU h hok x
  rw [he] at this
  exact this
set_option maxRecDepth 20000 in
set_option maxHeartbeats 8000000 in
theorem goesT {X : Nat → Prop} {w : World} {p m : Nat} {d : Dk} (h : Tw X w p m d d) (a : Ac) (ha : AcOk w X a) (hsm : a.segs.length ≤ 60 ∧ a.text.size ≤ 1000 ∧ a.keep.length ≤ 30) :
    Calls Tryz.prog 8 #[.agg #[.pointer (some ⟨p, 0, none⟩), .pointer (some ⟨m, 0, none⟩)], .agg #[.int .i64 a.op, .int .i64 a.n, a.sv, .string a.text, a.kv]] w fun e w' => e = .returned (.bool true) ∧ ∃ d', Tw X w' p m d' d' ∧ Kx X w w' := by
  obtain ⟨hkv, hsv, hop, han, _⟩ := ha
  obtain ⟨hs1, hs2, hs3⟩ := hsm
  obtain ⟨A1, k1, e1, hA1, hA2⟩ := hsv.shape
  obtain ⟨A2, k2, e2, hA3, hA4⟩ := hkv.shape
  rw [e1] at hsv ⊢
  rw [e2] at hkv ⊢
  unfold maxLen at hA2 hA4
  clear e1 e2
  have HLOW := Lib.hid h.low
  have HOK := Lib.hid h.ok
  obtain ⟨b0, hb0⟩ : ∃ b, w.heap.size = b := ⟨_, rfl⟩
  obtain ⟨b1, hb1⟩ : ∃ b, w.heap.size + 1 = b := ⟨_, rfl⟩
  have hB1 : Below w.heap.size w (w.alloc (.cells #[.pointer (some ⟨p, 0, none⟩), .pointer (some ⟨m, 0, none⟩)] 28)) := (Below.refl _ w).alloc (Nat.le_refl _) _
  have hk0 := heap_alloc_new w (.cells #[.pointer (some ⟨p, 0, none⟩), .pointer (some ⟨m, 0, none⟩)] 28)
  obtain ⟨w1, hw1⟩ : ∃ w1, w.alloc (.cells #[.pointer (some ⟨p, 0, none⟩), .pointer (some ⟨m, 0, none⟩)] 28) = w1 := ⟨_, rfl⟩
  have hsz1 : w1.heap.size = b1 := by rw [← hw1, World.size_alloc, hb1]
  rw [hw1] at hB1 hk0
  have hB2 : Below w1.heap.size w1 (w1.alloc (.cells #[.int .i64 a.op, .int .i64 a.n, .slice A1 a.segs.length k1, .string a.text, .slice A2 a.keep.length k2] 35)) := (Below.refl _ w1).alloc (Nat.le_refl _) _
  have hk1 := heap_alloc_new w1 (.cells #[.int .i64 a.op, .int .i64 a.n, .slice A1 a.segs.length k1, .string a.text, .slice A2 a.keep.length k2] 35)
  have hk0 := (hB2.block b0 (by rw [← hb0]; exact (Array.getElem?_eq_some_iff.1 hk0).1)).trans (hb0 ▸ hk0)
  have hB02 := hB1.trans (hB2.mono hB1.size)
  have h2 := h.more (X' := fun k => X k ∨ k = b0 ∨ k = b1) hB02 (fun k hk => hk.imp id (fun e => by rcases e with e | e <;> omega)) (fun k hk => by
    have hs0 := hB02.size
    have hz : (w1.alloc (.cells #[.int .i64 a.op, .int .i64 a.n, .slice A1 a.segs.length k1, .string a.text, .slice A2 a.keep.length k2] 35)).heap.size = b1 + 1 := by rw [World.size_alloc, hsz1]
    rcases hk with hk | hk | hk
    · have := h.hX k hk; omega
    · omega
    · omega) (fun k hk => .inl hk)
  have HB02 := Lib.hid hB02
  have HPA : Hid (∀ w', Kx (fun k => X k ∨ k = b0 ∨ k = b1) (w1.alloc (.cells #[.int .i64 a.op, .int .i64 a.n, .slice A1 a.segs.length k1, .string a.text, .slice A2 a.keep.length k2] 35)) w' → Kx X w w') := Lib.hid (fun w' hk => (Kx.of_below HB02.out).trans (hk.mono (fun k _ hn hx => hn (.inl hx))))
  have HSV := Lib.hid (hsv.fresh hB02)
  have HKV := Lib.hid (hkv.fresh hB02)
  have H2 := Lib.hid h2
  have HK0 := Lib.hid hk0
  have HK1 := Lib.hid hk1
  have HW1 := Lib.hid hw1
  have HSZ := Lib.hid hsz1
  have HB0 := Lib.hid hb0
  have HB1 := Lib.hid hb1
  clear h h2 hB1 hB2 hk0 hk1 hB02 hsv hkv hw1 hsz1 hb0 hb1
  go_enter Tryz.func8, Tryz.ntmps8
  go_upto_region 1 with (fail)
  rw [HB1.out, HB0.out, HW1.out]
  have hk0 := HK0.out
  have hk1 := HK1.out
  have h2 := H2.out
  have hsv := HSV.out
  have hkv := HKV.out
  have hpa := HPA.out
  rw [HSZ.out] at hk1
  clear HK0 HK1 H2 HSV HKV HPA HW1 HB02 HSZ
  generalize w1.alloc (.cells #[.int .i64 a.op, .int .i64 a.n, .slice A1 a.segs.length k1, .string a.text, .slice A2 a.keep.length k2] 35) = w2 at hk0 hk1 h2 hsv hkv hpa ⊢
  obtain ⟨r1, r2⟩ := pickOf_range a.n (n := 3) (by decide)
  obtain ⟨R, hR⟩ : ∃ R : Nat, pickOf a.n 3 = (R : Int) := ⟨(pickOf a.n 3).toNat, by omega⟩
  have hR3 : R < 3 := by omega
  obtain ⟨F, hF1, hF2⟩ := three_at R hR3
  have hal : Below w2.heap.size w2 (w2.alloc (.cells #[.string ⟨#[109, 97, 110, 105, 102, 101, 115, 116]⟩, .string ⟨#[101, 112, 111, 99, 104]⟩, .string ⟨#[116, 101, 109, 112]⟩] 9)) := (Below.refl _ w2).alloc (Nat.le_refl _) _
  have hk2 := heap_alloc_new w2 (.cells #[.string ⟨#[109, 97, 110, 105, 102, 101, 115, 116]⟩, .string ⟨#[101, 112, 111, 99, 104]⟩, .string ⟨#[116, 101, 109, 112]⟩] 9)
  have xf := cell_of_row _ w2.heap.size R _ _ _ hk2
  rw [hF2] at xf
  have hk0 := (hal.block b0 (Array.getElem?_eq_some_iff.1 hk0).1).trans hk0
  have hk1 := (hal.block b1 (Array.getElem?_eq_some_iff.1 hk1).1).trans hk1
  have h2 := h2.fresh hal
  have hsv := hsv.fresh hal
  have hkv := hkv.fresh hal
  have hpa : ∀ w', Kx (fun k => X k ∨ k = b0 ∨ k = b1) (w2.alloc (.cells #[.string ⟨#[109, 97, 110, 105, 102, 101, 115, 116]⟩, .string ⟨#[101, 112, 111, 99, 104]⟩, .string ⟨#[116, 101, 109, 112]⟩] 9)) w' → Kx X w w' := fun w' hk => hpa w' ((Kx.of_below hal).trans hk)
  obtain ⟨b2, hb2⟩ : ∃ b2, w2.heap.size = b2 := ⟨_, rfl⟩
  rw [hb2] at xf
  have a1 := cell_of_row _ b1 1 _ _ _ hk1
  have HB2 := Lib.hid hb2
  have HPK := Lib.hid hR
  have HPA := Lib.hid hpa
  have H2 := Lib.hid h2
  have HSV := Lib.hid hsv
  have HKV := Lib.hid hkv
  have HK0 := Lib.hid hk0
  have HK1 := Lib.hid hk1
  have HAL := Lib.hid hal
  clear hk0 hk1 h2 hsv hkv hpa hal hk2 hF2 hb2 hR r1 r2
  go_wp2_with fail
  refine (pick_any _ a.n 3 han (by decide)).mono ?_
  rintro e w2' ⟨rfl, rfl⟩
  rw [HPK.out, HB2.out]
  have hk0 := HK0.out
  have hk1 := HK1.out
  have h2 := H2.out
  have hsv := HSV.out
  have hkv := HKV.out
  have hpa := HPA.out
  clear a1 HK0 HK1 H2 HSV HKV HPA HAL HB2 HPK
  generalize w2.alloc (.cells #[.string ⟨#[109, 97, 110, 105, 102, 101, 115, 116]⟩, .string ⟨#[101, 112, 111, 99, 104]⟩, .string ⟨#[116, 101, 109, 112]⟩] 9) = w2 at hk0 hk1 h2 hsv hkv hpa xf ⊢
  have c0 := cell_of_row _ b0 0 _ _ _ hk0
  have c1 := cell_of_row _ b0 1 _ _ _ hk0
  have a0 : w2.cell? ⟨b1, 0, none⟩ = some (.int .i64 a.op) := cell_of_row _ b1 0 _ _ _ hk1
  have a1 : w2.cell? ⟨b1, 1, none⟩ = some (.int .i64 a.n) := cell_of_row _ b1 1 _ _ _ hk1
  have a2 : w2.cell? ⟨b1, 2, none⟩ = some (.slice A1 a.segs.length k1) := cell_of_row _ b1 2 _ _ _ hk1
  have a3 : w2.cell? ⟨b1, 3, none⟩ = some (.string a.text) := cell_of_row _ b1 3 _ _ _ hk1
  have a4 : w2.cell? ⟨b1, 4, none⟩ = some (.slice A2 a.keep.length k2) := cell_of_row _ b1 4 _ _ _ hk1
  have c0 : w2.cell? ⟨b0, 0, none⟩ = some (.pointer (some ⟨p, 0, none⟩)) := c0
  have c1 : w2.cell? ⟨b0, 1, none⟩ = some (.pointer (some ⟨m, 0, none⟩)) := c1
  have H2 := Lib.hid h2
  have HSV := Lib.hid hsv
  have HKV := Lib.hid hkv
  have HPA := Lib.hid hpa
  clear hk0 hk1 h2 hsv hkv hpa
  go_wp2_with fail
  refine (pick_any _ a.op 7 hop (by decide)).mono ?_
  rintro e w2' ⟨rfl, rfl⟩
  obtain ⟨r1, r2⟩ := pickOf_range a.op (n := 7) (by decide)
  obtain ⟨P, hP⟩ : ∃ P, pickOf a.op 7 = P := ⟨_, rfl⟩
  rw [hP] at r1 r2 ⊢
  clear hP
  have hPc : P = 0 ∨ P = 1 ∨ P = 2 ∨ P = 3 ∨ P = 4 ∨ P = 5 ∨ P = 6 := by omega
  clear r1 r2 xf
  have hwd : Below w2.heap.size w2 w2.drew := ⟨rfl, rfl, rfl, Nat.le_refl _, fun _ _ => rfl⟩
  have HTD := Lib.hid (H2.out.fresh hwd)
  have HSVD := Lib.hid (HSV.out.fresh hwd)
  rcases hPc with rfl | rfl | rfl | rfl | rfl | rfl | rfl
  ·
    have hq := saveT HTD.out a.n (.slice A1 a.segs.length k1) a.segs _ HSVD.out
    have HQ := Lib.hid hq
    clear hq
    have hlt0 := World.block_lt_of_cell? _ _ c0
    have hlt1 := World.block_lt_of_cell? _ _ a1
    go_wp2_with fail
    go_region_held3 (fun x => x.cell? ⟨b0, 0, none⟩ = some (.pointer (some ⟨p, 0, none⟩)) ∧ x.cell? ⟨b0, 1, none⟩ = some (.pointer (some ⟨m, 0, none⟩)) ∧ x.cell? ⟨b1, 1, none⟩ = some (.int .i64 a.n) ∧ x.cell? ⟨b1, 2, none⟩ = some (.slice A1 a.segs.length k1) ∧ x.cell? ⟨b1, 3, none⟩ = some (.string a.text))
      (first | exact ⟨by assumption, by assumption, by assumption, by assumption, by assumption⟩ | go_keep)
      (first
        | (go_at_call 20
           refine HQ.out.mono ?_
           rintro e w3 ⟨rfl, hT3, hk⟩
           have HT3 := Lib.hid hT3
           have HK3 := Lib.hid hk
           have c0 := (hk.cell (a := ⟨b0, 0, none⟩) hlt0 (fun h => h (.inr (.inl rfl)))).trans c0
           have c1 := (hk.cell (a := ⟨b0, 1, none⟩) hlt0 (fun h => h (.inr (.inl rfl)))).trans c1
           have a1 := (hk.cell (a := ⟨b1, 1, none⟩) hlt1 (fun h => h (.inr (.inr rfl)))).trans a1
           have a2 := (hk.cell (a := ⟨b1, 2, none⟩) hlt1 (fun h => h (.inr (.inr rfl)))).trans a2
           have a3 := (hk.cell (a := ⟨b1, 3, none⟩) hlt1 (fun h => h (.inr (.inr rfl)))).trans a3
           clear hT3 hk)
        | (go_at_call 21
           refine (saveU HT3.out HOK.out a.n _ a.segs _ (HSVD.out.keep HK3.out (fun k _ h1 h2 => h2 (.inl h1)))).mono ?_
           rintro e w4 ⟨rfl, hT4, hk4⟩
           have HT4 := Lib.hid hT4
           have HK4 := Lib.hid (HK3.out.trans hk4)
           have c0 := (hk4.cell (a := ⟨b0, 0, none⟩) (World.block_lt_of_cell? _ _ c0) (fun h => h (.inr (.inl rfl)))).trans c0
           have c1 := (hk4.cell (a := ⟨b0, 1, none⟩) (World.block_lt_of_cell? _ _ c1) (fun h => h (.inr (.inl rfl)))).trans c1
           have a1 := (hk4.cell (a := ⟨b1, 1, none⟩) (World.block_lt_of_cell? _ _ a1) (fun h => h (.inr (.inr rfl)))).trans a1
           have a2 := (hk4.cell (a := ⟨b1, 2, none⟩) (World.block_lt_of_cell? _ _ a2) (fun h => h (.inr (.inr rfl)))).trans a2
           have a3 := (hk4.cell (a := ⟨b1, 3, none⟩) (World.block_lt_of_cell? _ _ a3) (fun h => h (.inr (.inr rfl)))).trans a3
           clear hT4 hk4))
    go_wp2_with fail
    go_ret
    exact ⟨rfl, _, HT4.out.less (fun k h => .inl h) HLOW.out, HPA.out _ ((Kx.of_below hwd).trans HK4.out)⟩
  ·
    have hq := saveT HTD.out a.n (.slice A1 a.segs.length k1) a.segs _ HSVD.out
    have HQ := Lib.hid hq
    clear hq
    have hlt0 := World.block_lt_of_cell? _ _ c0
    have hlt1 := World.block_lt_of_cell? _ _ a1
    go_wp2_with fail
    go_region_held3 (fun x => x.cell? ⟨b0, 0, none⟩ = some (.pointer (some ⟨p, 0, none⟩)) ∧ x.cell? ⟨b0, 1, none⟩ = some (.pointer (some ⟨m, 0, none⟩)) ∧ x.cell? ⟨b1, 1, none⟩ = some (.int .i64 a.n) ∧ x.cell? ⟨b1, 2, none⟩ = some (.slice A1 a.segs.length k1) ∧ x.cell? ⟨b1, 3, none⟩ = some (.string a.text))
      (first | exact ⟨by assumption, by assumption, by assumption, by assumption, by assumption⟩ | go_keep)
      (first
        | (go_at_call 20
           refine HQ.out.mono ?_
           rintro e w3 ⟨rfl, hT3, hk⟩
           have HT3 := Lib.hid hT3
           have HK3 := Lib.hid hk
           have c0 := (hk.cell (a := ⟨b0, 0, none⟩) hlt0 (fun h => h (.inr (.inl rfl)))).trans c0
           have c1 := (hk.cell (a := ⟨b0, 1, none⟩) hlt0 (fun h => h (.inr (.inl rfl)))).trans c1
           have a1 := (hk.cell (a := ⟨b1, 1, none⟩) hlt1 (fun h => h (.inr (.inr rfl)))).trans a1
           have a2 := (hk.cell (a := ⟨b1, 2, none⟩) hlt1 (fun h => h (.inr (.inr rfl)))).trans a2
           have a3 := (hk.cell (a := ⟨b1, 3, none⟩) hlt1 (fun h => h (.inr (.inr rfl)))).trans a3
           clear hT3 hk)
        | (go_at_call 21
           refine (saveU HT3.out HOK.out a.n _ a.segs _ (HSVD.out.keep HK3.out (fun k _ h1 h2 => h2 (.inl h1)))).mono ?_
           rintro e w4 ⟨rfl, hT4, hk4⟩
           have HT4 := Lib.hid hT4
           have HK4 := Lib.hid (HK3.out.trans hk4)
           have c0 := (hk4.cell (a := ⟨b0, 0, none⟩) (World.block_lt_of_cell? _ _ c0) (fun h => h (.inr (.inl rfl)))).trans c0
           have c1 := (hk4.cell (a := ⟨b0, 1, none⟩) (World.block_lt_of_cell? _ _ c1) (fun h => h (.inr (.inl rfl)))).trans c1
           have a1 := (hk4.cell (a := ⟨b1, 1, none⟩) (World.block_lt_of_cell? _ _ a1) (fun h => h (.inr (.inr rfl)))).trans a1
           have a2 := (hk4.cell (a := ⟨b1, 2, none⟩) (World.block_lt_of_cell? _ _ a2) (fun h => h (.inr (.inr rfl)))).trans a2
           have a3 := (hk4.cell (a := ⟨b1, 3, none⟩) (World.block_lt_of_cell? _ _ a3) (fun h => h (.inr (.inr rfl)))).trans a3
           clear hT4 hk4))
    go_wp2_with fail
    go_ret
    exact ⟨rfl, _, HT4.out.less (fun k h => .inl h) HLOW.out, HPA.out _ ((Kx.of_below hwd).trans HK4.out)⟩
  ·
    have hq := raiseT HTD.out a.n
    have HQ := Lib.hid hq
    clear hq
    have hlt0 := World.block_lt_of_cell? _ _ c0
    have hlt1 := World.block_lt_of_cell? _ _ a1
    go_wp2_with fail
    go_region_held3 (fun x => x.cell? ⟨b0, 0, none⟩ = some (.pointer (some ⟨p, 0, none⟩)) ∧ x.cell? ⟨b0, 1, none⟩ = some (.pointer (some ⟨m, 0, none⟩)) ∧ x.cell? ⟨b1, 1, none⟩ = some (.int .i64 a.n) ∧ x.cell? ⟨b1, 2, none⟩ = some (.slice A1 a.segs.length k1) ∧ x.cell? ⟨b1, 3, none⟩ = some (.string a.text))
      (first | exact ⟨by assumption, by assumption, by assumption, by assumption, by assumption⟩ | go_keep)
      (first
        | (go_at_call 17
           refine HQ.out.mono ?_
           rintro e w3 ⟨rfl, hT3, hk⟩
           have HT3 := Lib.hid hT3
           have HK3 := Lib.hid hk
           have c0 := (hk.cell (a := ⟨b0, 0, none⟩) hlt0 (fun h => h (.inr (.inl rfl)))).trans c0
           have c1 := (hk.cell (a := ⟨b0, 1, none⟩) hlt0 (fun h => h (.inr (.inl rfl)))).trans c1
           have a1 := (hk.cell (a := ⟨b1, 1, none⟩) hlt1 (fun h => h (.inr (.inr rfl)))).trans a1
           have a2 := (hk.cell (a := ⟨b1, 2, none⟩) hlt1 (fun h => h (.inr (.inr rfl)))).trans a2
           have a3 := (hk.cell (a := ⟨b1, 3, none⟩) hlt1 (fun h => h (.inr (.inr rfl)))).trans a3
           clear hT3 hk)
        | (go_at_call 22
           refine (raiseU HT3.out HOK.out a.n).mono ?_
           rintro e w4 ⟨rfl, hT4, hk4⟩
           have HT4 := Lib.hid hT4
           have HK4 := Lib.hid (HK3.out.trans hk4)
           have c0 := (hk4.cell (a := ⟨b0, 0, none⟩) (World.block_lt_of_cell? _ _ c0) (fun h => h (.inr (.inl rfl)))).trans c0
           have c1 := (hk4.cell (a := ⟨b0, 1, none⟩) (World.block_lt_of_cell? _ _ c1) (fun h => h (.inr (.inl rfl)))).trans c1
           have a1 := (hk4.cell (a := ⟨b1, 1, none⟩) (World.block_lt_of_cell? _ _ a1) (fun h => h (.inr (.inr rfl)))).trans a1
           have a2 := (hk4.cell (a := ⟨b1, 2, none⟩) (World.block_lt_of_cell? _ _ a2) (fun h => h (.inr (.inr rfl)))).trans a2
           have a3 := (hk4.cell (a := ⟨b1, 3, none⟩) (World.block_lt_of_cell? _ _ a3) (fun h => h (.inr (.inr rfl)))).trans a3
           clear hT4 hk4))
    go_wp2_with fail
    go_ret
    exact ⟨rfl, _, HT4.out.less (fun k h => .inl h) HLOW.out, HPA.out _ ((Kx.of_below hwd).trans HK4.out)⟩
  ·
    have hq := raiseT HTD.out a.n
    have HQ := Lib.hid hq
    clear hq
    have hlt0 := World.block_lt_of_cell? _ _ c0
    have hlt1 := World.block_lt_of_cell? _ _ a1
    go_wp2_with fail
    go_region_held3 (fun x => x.cell? ⟨b0, 0, none⟩ = some (.pointer (some ⟨p, 0, none⟩)) ∧ x.cell? ⟨b0, 1, none⟩ = some (.pointer (some ⟨m, 0, none⟩)) ∧ x.cell? ⟨b1, 1, none⟩ = some (.int .i64 a.n) ∧ x.cell? ⟨b1, 2, none⟩ = some (.slice A1 a.segs.length k1) ∧ x.cell? ⟨b1, 3, none⟩ = some (.string a.text))
      (first | exact ⟨by assumption, by assumption, by assumption, by assumption, by assumption⟩ | go_keep)
      (first
        | (go_at_call 17
           refine HQ.out.mono ?_
           rintro e w3 ⟨rfl, hT3, hk⟩
           have HT3 := Lib.hid hT3
           have HK3 := Lib.hid hk
           have c0 := (hk.cell (a := ⟨b0, 0, none⟩) hlt0 (fun h => h (.inr (.inl rfl)))).trans c0
           have c1 := (hk.cell (a := ⟨b0, 1, none⟩) hlt0 (fun h => h (.inr (.inl rfl)))).trans c1
           have a1 := (hk.cell (a := ⟨b1, 1, none⟩) hlt1 (fun h => h (.inr (.inr rfl)))).trans a1
           have a2 := (hk.cell (a := ⟨b1, 2, none⟩) hlt1 (fun h => h (.inr (.inr rfl)))).trans a2
           have a3 := (hk.cell (a := ⟨b1, 3, none⟩) hlt1 (fun h => h (.inr (.inr rfl)))).trans a3
           clear hT3 hk)
        | (go_at_call 22
           refine (raiseU HT3.out HOK.out a.n).mono ?_
           rintro e w4 ⟨rfl, hT4, hk4⟩
           have HT4 := Lib.hid hT4
           have HK4 := Lib.hid (HK3.out.trans hk4)
           have c0 := (hk4.cell (a := ⟨b0, 0, none⟩) (World.block_lt_of_cell? _ _ c0) (fun h => h (.inr (.inl rfl)))).trans c0
           have c1 := (hk4.cell (a := ⟨b0, 1, none⟩) (World.block_lt_of_cell? _ _ c1) (fun h => h (.inr (.inl rfl)))).trans c1
           have a1 := (hk4.cell (a := ⟨b1, 1, none⟩) (World.block_lt_of_cell? _ _ a1) (fun h => h (.inr (.inr rfl)))).trans a1
           have a2 := (hk4.cell (a := ⟨b1, 2, none⟩) (World.block_lt_of_cell? _ _ a2) (fun h => h (.inr (.inr rfl)))).trans a2
           have a3 := (hk4.cell (a := ⟨b1, 3, none⟩) (World.block_lt_of_cell? _ _ a3) (fun h => h (.inr (.inr rfl)))).trans a3
           clear hT4 hk4))
    go_wp2_with fail
    go_ret
    exact ⟨rfl, _, HT4.out.less (fun k h => .inl h) HLOW.out, HPA.out _ ((Kx.of_below hwd).trans HK4.out)⟩
  ·
    have hq := appendT HTD.out F a.text (by omega) (by omega)
    have HQ := Lib.hid hq
    clear hq
    have hlt0 := World.block_lt_of_cell? _ _ c0
    have hlt1 := World.block_lt_of_cell? _ _ a1
    go_wp2_with fail
    go_region_held3 (fun x => x.cell? ⟨b0, 0, none⟩ = some (.pointer (some ⟨p, 0, none⟩)) ∧ x.cell? ⟨b0, 1, none⟩ = some (.pointer (some ⟨m, 0, none⟩)) ∧ x.cell? ⟨b1, 1, none⟩ = some (.int .i64 a.n) ∧ x.cell? ⟨b1, 2, none⟩ = some (.slice A1 a.segs.length k1) ∧ x.cell? ⟨b1, 3, none⟩ = some (.string a.text))
      (first | exact ⟨by assumption, by assumption, by assumption, by assumption, by assumption⟩ | go_keep)
      (first
        | (go_at_call 23
           refine HQ.out.mono ?_
           rintro e w3 ⟨rfl, hT3, hk⟩
           have HT3 := Lib.hid hT3
           have HK3 := Lib.hid hk
           have c0 := (hk.cell (a := ⟨b0, 0, none⟩) hlt0 (fun h => h (.inr (.inl rfl)))).trans c0
           have c1 := (hk.cell (a := ⟨b0, 1, none⟩) hlt0 (fun h => h (.inr (.inl rfl)))).trans c1
           have a1 := (hk.cell (a := ⟨b1, 1, none⟩) hlt1 (fun h => h (.inr (.inr rfl)))).trans a1
           have a2 := (hk.cell (a := ⟨b1, 2, none⟩) hlt1 (fun h => h (.inr (.inr rfl)))).trans a2
           have a3 := (hk.cell (a := ⟨b1, 3, none⟩) hlt1 (fun h => h (.inr (.inr rfl)))).trans a3
           clear hT3 hk)
        | (go_at_call 24
           refine (appendU HT3.out HOK.out F a.text (by omega) (by omega)).mono ?_
           rintro e w4 ⟨rfl, hT4, hk4⟩
           have HT4 := Lib.hid hT4
           have HK4 := Lib.hid (HK3.out.trans hk4)
           have c0 := (hk4.cell (a := ⟨b0, 0, none⟩) (World.block_lt_of_cell? _ _ c0) (fun h => h (.inr (.inl rfl)))).trans c0
           have c1 := (hk4.cell (a := ⟨b0, 1, none⟩) (World.block_lt_of_cell? _ _ c1) (fun h => h (.inr (.inl rfl)))).trans c1
           have a1 := (hk4.cell (a := ⟨b1, 1, none⟩) (World.block_lt_of_cell? _ _ a1) (fun h => h (.inr (.inr rfl)))).trans a1
           have a2 := (hk4.cell (a := ⟨b1, 2, none⟩) (World.block_lt_of_cell? _ _ a2) (fun h => h (.inr (.inr rfl)))).trans a2
           have a3 := (hk4.cell (a := ⟨b1, 3, none⟩) (World.block_lt_of_cell? _ _ a3) (fun h => h (.inr (.inr rfl)))).trans a3
           clear hT4 hk4))
    go_wp2_with fail
    go_ret
    exact ⟨rfl, _, HT4.out.less (fun k h => .inl h) HLOW.out, HPA.out _ ((Kx.of_below hwd).trans HK4.out)⟩
  · have hq := crashT H2.out (.slice A2 a.keep.length k2) a.keep (HKV.out.mono (fun _ _ h => .inl h))
    have HQ := Lib.hid hq
    clear hq
    have hlt0 := World.block_lt_of_cell? _ _ c0
    have hlt1 := World.block_lt_of_cell? _ _ a1
    go_wp2_with fail
    refine HQ.out.mono ?_
    rintro e w3 ⟨rfl, ks, hN, hT3, hk⟩
    have c1 := (hk.cell (a := ⟨b0, 1, none⟩) hlt0 (fun h => h (.inr (.inl rfl)))).trans c1
    have a4 := (hk.cell (a := ⟨b1, 4, none⟩) hlt1 (fun h => h (.inr (.inr rfl)))).trans a4
    have HKV3 := Lib.hid (HKV.out.keep hk (fun k _ h1 h2 => h2 (.inl h1)))
    have HT3 := Lib.hid hT3
    have HK3 := Lib.hid hk
    have HN := Lib.hid hN
    clear hT3 hk hN
    go_wp2_with fail
    refine (crashU HT3.out HOK.out (.slice A2 a.keep.length k2) a.keep (HKV3.out.mono (fun _ _ h => .inl h))).mono ?_
    rintro e w4 ⟨rfl, ks', hN', hT4, hk4⟩
    obtain rfl := hN'.uniq HN.out
    have HT4 := Lib.hid hT4
    have HK4 := Lib.hid (HK3.out.trans hk4)
    clear hT4 hk4 hN'
    go_wp2_with fail
    go_ret
    exact ⟨rfl, _, HT4.out.less (fun k h => .inl h) HLOW.out, HPA.out _ HK4.out⟩
  · obtain ⟨ev, hev⟩ : ∃ ev : Int, (if d.find F = none then (6 : Int) else 0) = ev := ⟨_, rfl⟩
    have HEV := Lib.hid hev
    clear hev
    have hq := deleteT' HTD.out F ev HEV.out (by omega)
    have HQ := Lib.hid hq
    clear hq
    have hlt0 := World.block_lt_of_cell? _ _ c0
    have hlt1 := World.block_lt_of_cell? _ _ a1
    go_wp2_with fail
    go_region_held3 (fun x => x.cell? ⟨b0, 0, none⟩ = some (.pointer (some ⟨p, 0, none⟩)) ∧ x.cell? ⟨b0, 1, none⟩ = some (.pointer (some ⟨m, 0, none⟩)) ∧ x.cell? ⟨b1, 1, none⟩ = some (.int .i64 a.n) ∧ x.cell? ⟨b1, 2, none⟩ = some (.slice A1 a.segs.length k1) ∧ x.cell? ⟨b1, 3, none⟩ = some (.string a.text))
      (first | exact ⟨by assumption, by assumption, by assumption, by assumption, by assumption⟩ | go_keep)
      (first
        | (go_at_call 27
           refine HQ.out.mono ?_
           rintro e w3 ⟨rfl, hT3, hk⟩
           have HT3 := Lib.hid hT3
           have HK3 := Lib.hid hk
           have c0 := (hk.cell (a := ⟨b0, 0, none⟩) hlt0 (fun h => h (.inr (.inl rfl)))).trans c0
           have c1 := (hk.cell (a := ⟨b0, 1, none⟩) hlt0 (fun h => h (.inr (.inl rfl)))).trans c1
           have a1 := (hk.cell (a := ⟨b1, 1, none⟩) hlt1 (fun h => h (.inr (.inr rfl)))).trans a1
           have a2 := (hk.cell (a := ⟨b1, 2, none⟩) hlt1 (fun h => h (.inr (.inr rfl)))).trans a2
           have a3 := (hk.cell (a := ⟨b1, 3, none⟩) hlt1 (fun h => h (.inr (.inr rfl)))).trans a3
           clear hT3 hk)
        | (go_at_call 28
           refine (deleteU' HT3.out HOK.out F ev HEV.out).mono ?_
           rintro e w4 ⟨rfl, hT4, hk4⟩
           have HT4 := Lib.hid hT4
           have HK4 := Lib.hid (HK3.out.trans hk4)
           have c0 := (hk4.cell (a := ⟨b0, 0, none⟩) (World.block_lt_of_cell? _ _ c0) (fun h => h (.inr (.inl rfl)))).trans c0
           have c1 := (hk4.cell (a := ⟨b0, 1, none⟩) (World.block_lt_of_cell? _ _ c1) (fun h => h (.inr (.inl rfl)))).trans c1
           have a1 := (hk4.cell (a := ⟨b1, 1, none⟩) (World.block_lt_of_cell? _ _ a1) (fun h => h (.inr (.inr rfl)))).trans a1
           have a2 := (hk4.cell (a := ⟨b1, 2, none⟩) (World.block_lt_of_cell? _ _ a2) (fun h => h (.inr (.inr rfl)))).trans a2
           have a3 := (hk4.cell (a := ⟨b1, 3, none⟩) (World.block_lt_of_cell? _ _ a3) (fun h => h (.inr (.inr rfl)))).trans a3
           clear hT4 hk4))
    go_wp2_with fail
    go_ret
    exact ⟨rfl, _, HT4.out.less (fun k h => .inl h) HLOW.out, HPA.out _ ((Kx.of_below hwd).trans HK4.out)⟩
end Go.Proofs.YthdehdlbocgfaaaGreatDoor

namespace Go.Proofs.YthdehdlbocgfaaaGreatDoor
open Go.RowKit Go.Bl
attribute [local go_sem ↓] Go.wp_at_zero Go.wp_at_succ

/-- The pair's block, both disks. -/
structure Pp (w0 w : World) (bp p m : Nat) (d : Dk) : Prop where
  blk : w.heap[bp]? = some (.cells #[.pointer (some ⟨p, 0, none⟩), .pointer (some ⟨m, 0, none⟩)] 28 (0, 0))
  two : Tw (fun k => k < w0.heap.size ∨ k = bp) w p m d d
  past : Below w0.heap.size w0 w
  g0 : w0.heap.size ≤ bp
section
variable {w0 w w' : World} {bp p m : Nat} {d : Dk}
theorem Pp.c0 (h : Pp w0 w bp p m d) : w.cell? ⟨bp, 0, none⟩ = some (.pointer (some ⟨p, 0, none⟩)) := cell_of_row w bp 0 _ _ _ h.blk
theorem Pp.c1 (h : Pp w0 w bp p m d) : w.cell? ⟨bp, 1, none⟩ = some (.pointer (some ⟨m, 0, none⟩)) := cell_of_row w bp 1 _ _ _ h.blk
theorem Pp.lt (h : Pp w0 w bp p m d) : bp < w.heap.size := (Array.getElem?_eq_some_iff.1 h.blk).1
theorem Pp.fresh (h : Pp w0 w bp p m d) (hB : Below w.heap.size w w') : Pp w0 w' bp p m d := ⟨(hB.block _ h.lt).trans h.blk, h.two.fresh hB, h.past.trans (hB.mono h.past.size), h.g0⟩
theorem Pp.step (h : Pp w0 w bp p m d) {d' : Dk} (hT : Tw (fun k => k < w0.heap.size ∨ k = bp) w' p m d' d') (hk : Kx (fun k => k < w0.heap.size ∨ k = bp) w w') : Pp w0 w' bp p m d' :=
  ⟨(hk.block bp h.lt (fun hn => hn (.inr rfl))).trans h.blk, hT, h.past.trans (hk.below (fun _ hk => .inl hk) h.past.size), h.g0⟩
theorem Pp.begin (h : Tw (fun k => k < w0.heap.size) w p m d d) (hB : Below w0.heap.size w0 w) : Pp w0 (w.alloc (.cells #[.pointer (some ⟨p, 0, none⟩), .pointer (some ⟨m, 0, none⟩)] 28)) w.heap.size p m d :=
  have hal : Below w.heap.size w (w.alloc (.cells #[.pointer (some ⟨p, 0, none⟩), .pointer (some ⟨m, 0, none⟩)] 28)) := (Below.refl _ w).alloc (Nat.le_refl _) _
  ⟨heap_alloc_new w _, h.more hal (fun k hk => hk.imp id (fun e => Nat.le_of_eq e.symm)) (fun k hk => by have := hB.size; simp; omega) (fun k hk => .inl hk), hB.trans (hal.mono hB.size), hB.size⟩
end
set_option maxRecDepth 100000 in
set_option maxHeartbeats 16000000 in
theorem plays_law (w : World) (hT : Tabs w) (room : Int) (hro : i64 room) (v : Value) (l : List Ac) (h : Acts w (fun k => k < w.heap.size) v l) :
    Calls Tryz.prog 3 #[.int .i64 room, v] w fun e w' => e = .returned (.bool true) ∧ Below w.heap.size w w' := by
  obtain ⟨A, c, rfl, hA1, hA2⟩ := h.1.shape
  unfold maxLen at hA2
  have HT := Lib.hid hT
  have HS := Lib.hid h
  have HRO := Lib.hid hro
  clear hT h hro
  go_enter Tryz.func3, Tryz.ntmps3
  go_wp2_with fail
  refine (shown_any w HT.out).mono ?_
  rintro e w1 ⟨rfl, hB1⟩
  have HS1 := Lib.hid (HS.out.keep (Keeps.of_fresh hB1 (fun _ => False)) (fun _ _ _ h => h))
  have HB1 := Lib.hid hB1
  clear hB1
  go_wp2_with fail
  refine (small_any w1 _ _ l HS1.out).mono ?_
  rintro e w1' ⟨rfl, rfl⟩
  go_wp2_with fail
  refine (pick_any w1 room 2000 HRO.out (by decide)).mono ?_
  rintro e w1' ⟨rfl, rfl⟩
  have hr := pickOf_range room (n := 2000) (by decide)
  obtain ⟨r, hr3⟩ : ∃ r, pickOf room 2000 = r := ⟨_, rfl⟩
  rw [hr3] at hr ⊢
  obtain ⟨hr1, hr2⟩ := hr
  clear hr3
  go_wp2_with fail
  refine (begunT (HT.out.fresh HB1.out) (10 + r) (by omega) (by omega)).mono ?_
  rintro e w2 ⟨p, m, rfl, hTw, hB⟩
  have hP := Pp.begin (w0 := w) (hTw.less (X' := fun k => k < w.heap.size) (fun k hk => Nat.lt_of_lt_of_le hk HB1.out.size) (fun k hk => Nat.lt_of_lt_of_le hk HT.out.lt)) (HB1.out.trans (hB.mono HB1.out.size))
  obtain ⟨bp, hbp⟩ : ∃ b, w2.heap.size = b := ⟨_, rfl⟩
  rw [hbp] at hP
  have HP := Lib.hid hP
  have HBW := Lib.hid hbp
  clear hTw hB hP hbp
  cases hsm : smallB l with
  | false =>
    go_wp2_with fail
    go_ret
    exact ⟨rfl, HP.out.past⟩
  | true =>
    obtain ⟨hl60, hsa⟩ := smallB_at hsm
    have HSA := Lib.hid hsa
    clear hsm hsa
    go_upto_region 6 with (fail)
    rw [HBW.out]
    generalize w2.alloc (.cells #[.pointer (some ⟨p, 0, none⟩), .pointer (some ⟨m, 0, none⟩)] 28) = w3 at HP ⊢
    clear HBW
    go_wp2_with fail
    go_loopw [9] (fun i wr => ∃ (k : Nat) (d : Dk), k ≤ l.length ∧ i = .int .i64 k ∧ Pp w wr bp p m d) (fun i _ => l.length - (intOf i).toNat)
    case atStart => exact ⟨0, _, Nat.zero_le _, rfl, HP.out⟩
    case round =>
      obtain ⟨k, d, hk, rfl, hP⟩ := hrel
      have HPr := Lib.hid hP
      clear hP HP
      by_cases hlt : k < l.length
      · have d0 : decide ((k : Int) < (l.length : Int)) = true := by simp; omega
        have hacts := HS.out.keep (Keeps.of_below HPr.out.past) (G := fun k => w.heap.size ≤ k) (fun k _ h1 h2 => by omega)
        obtain ⟨q, o, rfl, hq1, hq2, hxx⟩ := hacts.1.cell_ hlt
        have hac := hacts.2 l[k] (List.getElem_mem hlt)
        have hsm := HSA.out l[k] (List.getElem_mem hlt)
        obtain ⟨a, ha⟩ : ∃ a, l[k] = a := ⟨_, rfl⟩
        rw [ha] at hxx hac hsm
        have x0 := hxx 0 _ rfl
        have x1 := hxx 1 _ rfl
        have x2 := hxx 2 _ rfl
        have x3 := hxx 3 _ rfl
        have x4 := hxx 4 _ rfl
        obtain ⟨A1, k1, e1, hB1, hB2⟩ := hac.2.1.shape
        obtain ⟨A2, k2, e2, hB3, hB4⟩ := hac.1.shape
        rw [e1] at x2
        rw [e2] at x4
        unfold maxLen at hB2 hB4
        have hwd : Below wr.heap.size wr wr.drew := ⟨rfl, rfl, rfl, Nat.le_refl _, fun _ _ => rfl⟩
        have hgo := goesT (HPr.out.two.fresh hwd) a ⟨(hac.1.fresh hwd).mono (fun _ _ h => .inl h), (hac.2.1.fresh hwd).mono (fun _ _ h => .inl h), hac.2.2⟩ hsm
        rw [e1, e2] at hgo
        have c0 := HPr.out.c0
        have c1 := HPr.out.c1
        have hbl := HPr.out.lt
        have HGO := Lib.hid hgo
        have hlq := World.block_lt_of_cell? _ _ x1
        clear hgo hac hacts hxx ha e1 e2 hsm
        rw [Nat.add_zero] at x0
        go_wp2_with fail
        go_region_held3 (fun x => x.cell? ⟨bp, 0, none⟩ = some (.pointer (some ⟨p, 0, none⟩)) ∧ x.cell? ⟨bp, 1, none⟩ = some (.pointer (some ⟨m, 0, none⟩)) ∧ x.cell? ⟨q, o + k * 5, none⟩ = some (.int .i64 a.op) ∧ x.cell? ⟨q, o + k * 5 + 1, none⟩ = some (.int .i64 a.n) ∧ x.cell? ⟨q, o + k * 5 + 2, none⟩ = some (.slice A1 a.segs.length k1) ∧ x.cell? ⟨q, o + k * 5 + 3, none⟩ = some (.string a.text) ∧ x.cell? ⟨q, o + k * 5 + 4, none⟩ = some (.slice A2 a.keep.length k2))
          (first | exact ⟨by assumption, by assumption, by assumption, by assumption, by assumption, by assumption, by assumption⟩ | go_keep)
          (first
            | (go_at_call 8
               refine HGO.out.mono ?_
               rintro e w5 ⟨rfl, d5, hT5, hk5⟩
               have HT5 := Lib.hid hT5
               have HK5 := Lib.hid hk5
               have c0 := (hk5.cell (a := ⟨bp, 0, none⟩) hbl (fun h => h (.inr rfl))).trans c0
               have c1 := (hk5.cell (a := ⟨bp, 1, none⟩) hbl (fun h => h (.inr rfl))).trans c1
               have x0 := (hk5.cell (a := ⟨q, o + k * 5, none⟩) hlq (fun h => h (.inl hq1))).trans x0
               have x1 := (hk5.cell (a := ⟨q, o + k * 5 + 1, none⟩) hlq (fun h => h (.inl hq1))).trans x1
               have x2 := (hk5.cell (a := ⟨q, o + k * 5 + 2, none⟩) hlq (fun h => h (.inl hq1))).trans x2
               have x3 := (hk5.cell (a := ⟨q, o + k * 5 + 3, none⟩) hlq (fun h => h (.inl hq1))).trans x3
               have x4 := (hk5.cell (a := ⟨q, o + k * 5 + 4, none⟩) hlq (fun h => h (.inl hq1))).trans x4
               clear hT5 hk5))
        have h5 := (HPr.out.fresh hwd).step HT5.out HK5.out
        have H5 := Lib.hid h5
        clear HT5 HK5 h5 HGO HPr hwd hlq hbl
        have c0 := H5.out.c0
        have c1 := H5.out.c1
        go_wp2_with fail
        refine (alikeT H5.out.two).mono ?_
        rintro e w6 ⟨rfl, hB6⟩
        have h6 := H5.out.fresh hB6
        have c0 := h6.c0
        have c1 := h6.c1
        have H6 := Lib.hid h6
        clear hB6 h6
        go_wp2_with fail
        refine (loadT H6.out.two).mono ?_
        obtain ⟨n, sg, er, hld⟩ : ∃ n sg er, ldV (d5.find sFile) = (n, sg, er) := ⟨_, _, _, rfl⟩
        rw [hld]
        rintro e w7 ⟨va, rfl, hsa, hB7⟩
        obtain ⟨C1, j1, rfl, hC1, hC2⟩ := hsa.shape_ (n := sg.length) rfl
        unfold maxLen at hC2
        have hal := (Below.refl _ w7).alloc (Nat.le_refl _) (.cells #[.int .i64 n, .slice C1 sg.length j1] 37)
        have hka := heap_alloc_new w7 (.cells #[.int .i64 n, .slice C1 sg.length j1] 37)
        have h8 := (H6.out.fresh hB7).fresh hal
        have hsa8 := hsa.fresh hal
        have c1 := h8.c1
        have H8 := Lib.hid h8
        have HSA8 := Lib.hid hsa8
        have HKA := Lib.hid hka
        have HLD := Lib.hid hld
        clear hal hka h8 hsa8 hsa hB7 hld
        obtain ⟨ba, hba⟩ : ∃ ba, w7.heap.size = ba := ⟨_, rfl⟩
        rw [hba] at HKA
        go_wp2_with fail
        generalize w7.alloc (.cells #[.int .i64 n, .slice C1 sg.length j1] 37) = w8 at H8 HSA8 HKA c1 ⊢
        refine (loadU H8.out.two H8.out.two.ok).mono ?_
        rw [HLD.out]
        rintro e w9 ⟨vb, rfl, hsb, hB9⟩
        obtain ⟨C2, j2, rfl, hC3, hC4⟩ := hsb.shape_ (n := sg.length) rfl
        unfold maxLen at hC4
        have hal := (Below.refl _ w9).alloc (Nat.le_refl _) (.cells #[.int .i64 n, .slice C2 sg.length j2] 41)
        have hkb := heap_alloc_new w9 (.cells #[.int .i64 n, .slice C2 sg.length j2] 41)
        have hall := hB9.trans (hal.mono hB9.size)
        have h10 := H8.out.fresh hall
        have hsa10 := HSA8.out.fresh hall
        have hka10 := (hall.block ba (Array.getElem?_eq_some_iff.1 HKA.out).1).trans HKA.out
        have hsb10 := hsb.fresh hal
        obtain ⟨bb, hbb⟩ : ∃ ba, w9.heap.size = ba := ⟨_, rfl⟩
        rw [hbb] at hkb
        have c0 := h10.c0
        have c1 := h10.c1
        have H10 := Lib.hid h10
        have HSA10 := Lib.hid hsa10
        have HSB10 := Lib.hid hsb10
        have HKA10 := Lib.hid hka10
        have HKB10 := Lib.hid hkb
        clear hal hall hkb h10 hsa10 hsb10 hka10 hsb hB9 H8 HSA8 HKA H5 H6
        go_upto_region 13 with (fail)
        clear c0 c1
        generalize w9.alloc (.cells #[.int .i64 n, .slice C2 sg.length j2] 41) = wz at H10 HSA10 HSB10 HKA10 HKB10 ⊢
        have c0 := H10.out.c0
        have c1 := H10.out.c1
        have u0 : wz.cell? ⟨ba, 0, none⟩ = some (.int .i64 n) := cell_of_row _ ba 0 _ _ _ HKA10.out
        have u1 : wz.cell? ⟨ba, 1, none⟩ = some (.slice C1 sg.length j1) := cell_of_row _ ba 1 _ _ _ HKA10.out
        have v0 : wz.cell? ⟨bb, 0, none⟩ = some (.int .i64 n) := cell_of_row _ bb 0 _ _ _ HKB10.out
        have v1 : wz.cell? ⟨bb, 1, none⟩ = some (.slice C2 sg.length j2) := cell_of_row _ bb 1 _ _ _ HKB10.out
        have HA := Lib.hid (show Below wz.heap.size wz wz.drew from ⟨rfl, rfl, rfl, Nat.le_refl _, fun _ _ => rfl⟩)
        have hsame : ∀ W, Below wz.heap.size wz W → Calls Tryz.prog 12 #[.slice C1 sg.length j1, .slice C2 sg.length j2] W fun e w' => e = .returned (.bool true) ∧ Below W.heap.size W w' := fun W hW => (sameInts_any W _ _ _ _ sg sg (HSA10.out.fresh hW) (HSB10.out.fresh hW)).mono (fun e w' h => by
          obtain ⟨he, nq, rfl⟩ := h
          exact ⟨he.trans (by simp), below_drewN (Below.refl _ _) nq⟩)
        have HSAME := Lib.hid hsame
        clear hsame
        go_region_held3 (fun x => x.cell? ⟨bp, 0, none⟩ = some (.pointer (some ⟨p, 0, none⟩)) ∧ x.cell? ⟨bp, 1, none⟩ = some (.pointer (some ⟨m, 0, none⟩)) ∧ x.cell? ⟨ba, 0, none⟩ = some (.int .i64 n) ∧ x.cell? ⟨ba, 1, none⟩ = some (.slice C1 sg.length j1) ∧ x.cell? ⟨bb, 0, none⟩ = some (.int .i64 n) ∧ x.cell? ⟨bb, 1, none⟩ = some (.slice C2 sg.length j2))
          (first | exact ⟨by assumption, by assumption, by assumption, by assumption, by assumption, by assumption⟩ | go_keep)
          (first
            | (go_at_call 12
               refine (HSAME.out _ HA.out).mono ?_
               rintro e w6 ⟨rfl, hB6⟩
               have c0 := (hB6.cell (p := ⟨bp, 0, none⟩) (World.block_lt_of_cell? _ _ c0)).trans c0
               have c1 := (hB6.cell (p := ⟨bp, 1, none⟩) (World.block_lt_of_cell? _ _ c1)).trans c1
               have u0 := (hB6.cell (p := ⟨ba, 0, none⟩) (World.block_lt_of_cell? _ _ u0)).trans u0
               have u1 := (hB6.cell (p := ⟨ba, 1, none⟩) (World.block_lt_of_cell? _ _ u1)).trans u1
               have v0 := (hB6.cell (p := ⟨bb, 0, none⟩) (World.block_lt_of_cell? _ _ v0)).trans v0
               have v1 := (hB6.cell (p := ⟨bb, 1, none⟩) (World.block_lt_of_cell? _ _ v1)).trans v1
               have HA := Lib.hid (HA.out.trans (hB6.mono HA.out.size))
               clear hB6
              )
            | (go_at_call 13
               refine (epochT (H10.out.two.fresh HA.out)).mono ?_
               rintro e w6 ⟨rfl, hB6⟩
               have c0 := (hB6.cell (p := ⟨bp, 0, none⟩) (World.block_lt_of_cell? _ _ c0)).trans c0
               have c1 := (hB6.cell (p := ⟨bp, 1, none⟩) (World.block_lt_of_cell? _ _ c1)).trans c1
               have u0 := (hB6.cell (p := ⟨ba, 0, none⟩) (World.block_lt_of_cell? _ _ u0)).trans u0
               have u1 := (hB6.cell (p := ⟨ba, 1, none⟩) (World.block_lt_of_cell? _ _ u1)).trans u1
               have v0 := (hB6.cell (p := ⟨bb, 0, none⟩) (World.block_lt_of_cell? _ _ v0)).trans v0
               have v1 := (hB6.cell (p := ⟨bb, 1, none⟩) (World.block_lt_of_cell? _ _ v1)).trans v1
               have HA := Lib.hid (HA.out.trans (hB6.mono HA.out.size))
               clear hB6
              )
            | (go_at_call 14
               refine (epochU (H10.out.two.fresh HA.out) H10.out.two.ok).mono ?_
               rintro e w6 ⟨rfl, hB6⟩
               have c0 := (hB6.cell (p := ⟨bp, 0, none⟩) (World.block_lt_of_cell? _ _ c0)).trans c0
               have c1 := (hB6.cell (p := ⟨bp, 1, none⟩) (World.block_lt_of_cell? _ _ c1)).trans c1
               have u0 := (hB6.cell (p := ⟨ba, 0, none⟩) (World.block_lt_of_cell? _ _ u0)).trans u0
               have u1 := (hB6.cell (p := ⟨ba, 1, none⟩) (World.block_lt_of_cell? _ _ u1)).trans u1
               have v0 := (hB6.cell (p := ⟨bb, 0, none⟩) (World.block_lt_of_cell? _ _ v0)).trans v0
               have v1 := (hB6.cell (p := ⟨bb, 1, none⟩) (World.block_lt_of_cell? _ _ v1)).trans v1
               have HA := Lib.hid (HA.out.trans (hB6.mono HA.out.size))
               clear hB6
              )
            | (go_at_call 15
               refine (right_any _ n _ sg _ (HSA10.out.fresh HA.out)).mono ?_
               rintro e w6 ⟨rfl, hB6⟩
               have c0 := (hB6.cell (p := ⟨bp, 0, none⟩) (World.block_lt_of_cell? _ _ c0)).trans c0
               have c1 := (hB6.cell (p := ⟨bp, 1, none⟩) (World.block_lt_of_cell? _ _ c1)).trans c1
               have u0 := (hB6.cell (p := ⟨ba, 0, none⟩) (World.block_lt_of_cell? _ _ u0)).trans u0
               have u1 := (hB6.cell (p := ⟨ba, 1, none⟩) (World.block_lt_of_cell? _ _ u1)).trans u1
               have v0 := (hB6.cell (p := ⟨bb, 0, none⟩) (World.block_lt_of_cell? _ _ v0)).trans v0
               have v1 := (hB6.cell (p := ⟨bb, 1, none⟩) (World.block_lt_of_cell? _ _ v1)).trans v1
               have HA := Lib.hid (HA.out.trans (hB6.mono HA.out.size))
               clear hB6
              )
            | (go_at_call 16
               refine (right10_any _ n _ sg _ (HSB10.out.fresh HA.out)).mono ?_
               rintro e w6 ⟨rfl, hB6⟩
               have c0 := (hB6.cell (p := ⟨bp, 0, none⟩) (World.block_lt_of_cell? _ _ c0)).trans c0
               have c1 := (hB6.cell (p := ⟨bp, 1, none⟩) (World.block_lt_of_cell? _ _ c1)).trans c1
               have u0 := (hB6.cell (p := ⟨ba, 0, none⟩) (World.block_lt_of_cell? _ _ u0)).trans u0
               have u1 := (hB6.cell (p := ⟨ba, 1, none⟩) (World.block_lt_of_cell? _ _ u1)).trans u1
               have v0 := (hB6.cell (p := ⟨bb, 0, none⟩) (World.block_lt_of_cell? _ _ v0)).trans v0
               have v1 := (hB6.cell (p := ⟨bb, 1, none⟩) (World.block_lt_of_cell? _ _ v1)).trans v1
               have HA := Lib.hid (HA.out.trans (hB6.mono HA.out.size))
               clear hB6
              ))
        have H11 := Lib.hid (H10.out.fresh HA.out)
        clear c0 c1 u0 u1 v0 v1
        go_wp2_with fail
        go_roundw
        case rel => exact ⟨k + 1, d5, by omega, by go_num, H11.out⟩
        case measure => simp [intOf]; omega
      · have d0 : decide ((k : Int) < (l.length : Int)) = false := by simp; omega
        go_wp2_with fail
        go_ret
        exact ⟨rfl, HPr.out.past⟩
end Go.Proofs.YthdehdlbocgfaaaGreatDoor
