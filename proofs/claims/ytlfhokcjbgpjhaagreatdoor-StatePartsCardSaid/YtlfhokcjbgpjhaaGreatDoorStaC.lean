/- The state: Applied, Version, Pos, Read, Streams, Look, Clone. Under the stated premises on sizes. -/
import Derived.Test.YtlfhokcjbgpjhaaGreatDoorStaA
import Derived.Test.YtlfhokcjbgpjhaaGreatDoorIdxH
import Derived.Test.YtlfhokcjbgpjhaaGreatDoorIdxY
import Derived.Test.YtlfhokcjbgpjhaaGreatDoorDedO
import Derived.Deep.RegionHeld3
import Derived.Deep.DrawnRows
namespace Go.Proofs.YtlfhokcjbgpjhaaGreatDoor
open Go.RowKit Go.Bl
attribute [local go_sem ↓] Go.wp_at_zero Go.wp_at_succ

section
variable (w : World) (p : Nat) (s : St) (F W : Nat → Prop) (h : StAt w p s F W)
include h
theorem applied_any : Calls Tryz.prog 14 #[.pointer (some ⟨p, 0, none⟩)] w fun e w' => e = .returned (.int .i64 s.ap) ∧ w = w' := by
  obtain ⟨px, pt, FX, FT, GT, h⟩ := h
  have c2 := h.c2
  clear h
  go_enter Tryz.func14, Tryz.ntmps14
  go_wp2
  go_ret
  exact ⟨rfl, rfl⟩
theorem sversion_any (n : ByteArray) (hn : n.size ≤ maxLen) : Calls Tryz.prog 37 #[.pointer (some ⟨p, 0, none⟩), .string n] w fun e w' => e = .returned (.int .i64 (Idx.ofS s.L n).length) ∧ w = w' := by
  obtain ⟨px, pt, FX, FT, GT, h⟩ := h
  have c0 := h.c0
  have HI := Lib.hid h.idx
  clear h
  go_enter Tryz.func37, Tryz.ntmps37
  go_wp2_with fail
  refine (Idx.version_any w px s.L FX HI.out n hn).mono ?_
  rintro e w2 ⟨rfl, rfl⟩
  go_wp2_with fail
  go_ret
  exact ⟨rfl, rfl⟩
theorem spos_any (n : ByteArray) (hn : n.size ≤ maxLen) (k : Int) (hL : s.L.length ≤ 1073741824) : Calls Tryz.prog 42 #[.pointer (some ⟨p, 0, none⟩), .string n, .int .i64 k] w fun e w' => e = .returned (.int .i64 (Idx.posOf (Idx.ofS s.L n) k)) ∧ w = w' := by
  obtain ⟨px, pt, FX, FT, GT, h⟩ := h
  have c0 := h.c0
  have HI := Lib.hid h.idx
  clear h
  go_enter Tryz.func42, Tryz.ntmps42
  go_wp2_with fail
  refine (Idx.pos_any w px s.L FX HI.out n hn k hL).mono ?_
  rintro e w2 ⟨rfl, rfl⟩
  go_wp2_with fail
  go_ret
  exact ⟨rfl, rfl⟩
theorem sread_any (n : ByteArray) (hn : n.size ≤ maxLen) (k : Int) (hL : s.L.length ≤ 1073741824) : Calls Tryz.prog 40 #[.pointer (some ⟨p, 0, none⟩), .string n, .int .i64 k] w fun e w' => ∃ v, e = .returned v ∧ Below w.heap.size w w' ∧
      Sl w' (fun b => w.heap.size ≤ b) 2 evc v ((((Idx.ofS s.L n).drop (max k 1 - 1).toNat).take 16).map Idx.Kp.e) := by
  obtain ⟨px, pt, FX, FT, GT, h⟩ := h
  have c0 := h.c0
  have HI := Lib.hid h.idx
  clear h
  go_enter Tryz.func40, Tryz.ntmps40
  go_wp2_with fail
  refine (Idx.range_any w px s.L FX HI.out n hn k 16 hL).mono ?_
  rintro e w2 ⟨v, rfl, hB, hS⟩
  have HS := Lib.hid hS
  have HB := Lib.hid hB
  clear hS hB
  go_wp2_with fail
  go_ret
  exact ⟨v, rfl, HB.out, HS.out⟩
theorem streams_any (hL : s.L.length ≤ 1073741824) : Calls Tryz.prog 31 #[.pointer (some ⟨p, 0, none⟩)] w fun e w' => ∃ v ks, e = .returned v ∧ Idx.Streams s.L ks ∧ Below w.heap.size w w' ∧ Sl w' (fun b => w.heap.size ≤ b) 1 strc v ks := by
  obtain ⟨px, pt, FX, FT, GT, h⟩ := h
  have c0 := h.c0
  have HI := Lib.hid h.idx
  clear h
  go_enter Tryz.func31, Tryz.ntmps31
  go_wp2_with fail
  refine (Idx.names_any w px s.L FX HI.out hL).mono ?_
  rintro e w2 ⟨v, ks, rfl, hT, hB, hS⟩
  have HS := Lib.hid hS
  have HB := Lib.hid hB
  have HT := Lib.hid hT
  clear hS hB hT
  go_wp2_with fail
  go_ret
  exact ⟨v, ks, rfl, HT.out, HB.out, HS.out⟩
set_option maxHeartbeats 1000000 in
theorem slook_any (x y : Int) (hx : Ded.i64 x) (hy : Ded.i64 y) : Calls Tryz.prog 46 #[.pointer (some ⟨p, 0, none⟩), .int .i64 x, .int .i64 y] w fun e w' =>
    e = .returned (.tuple #[.agg #[.int .i64 (Ded.lookL s.T x y).1.code, .int .i64 (Ded.lookL s.T x y).1.pos, .int .i64 (Ded.lookL s.T x y).1.first, .int .i64 (Ded.lookL s.T x y).1.ver], .int .i64 (Ded.lookL s.T x y).2]) ∧ Below w.heap.size w w' := by
  obtain ⟨px, pt, FX, FT, GT, h⟩ := h
  have hB0 : Below w.heap.size w (w.alloc (.cells #[.int .i64 0, .int .i64 0, .int .i64 0, .int .i64 0] 35)) := (Below.refl _ w).alloc (Nat.le_refl _) _
  have h := h.fresh hB0
  have c1 := h.c1
  have HI := Lib.hid h.tab
  have hz := heap_alloc_new w (.cells #[.int .i64 0, .int .i64 0, .int .i64 0, .int .i64 0] 35)
  clear h
  rcases hr : Ded.lookL s.T x y with ⟨⟨r1, r2, r3, r4⟩, r5⟩
  have HR := Lib.hid hr
  clear hr
  go_enter Tryz.func46, Tryz.ntmps46
  go_upto_region 1 with (fail)
  generalize w.alloc (.cells #[.int .i64 0, .int .i64 0, .int .i64 0, .int .i64 0] 35) = w1 at hB0 hz c1 HI ⊢
  have HB0 := Lib.hid hB0
  clear hB0
  go_wp2_with fail
  refine (Ded.look_any w1 pt s.T FT GT HI.out x y hx hy).mono ?_
  rintro e w2 ⟨he, hB⟩
  rw [HR.out] at he
  obtain rfl : e = .returned (.tuple #[.agg #[.int .i64 r1, .int .i64 r2, .int .i64 r3, .int .i64 r4], .int .i64 r5]) := he
  have hz := (Keeps.of_fresh hB (fun _ => False)).grownTo hz id
  have z0 : w2.cell? ⟨w.heap.size, 0, none⟩ = some (.int .i64 0) := cell_of_row w2 _ 0 _ _ _ hz
  have z1 : w2.cell? ⟨w.heap.size, 1, none⟩ = some (.int .i64 0) := cell_of_row w2 _ 1 _ _ _ hz
  have z2 : w2.cell? ⟨w.heap.size, 2, none⟩ = some (.int .i64 0) := cell_of_row w2 _ 2 _ _ _ hz
  have z3 : w2.cell? ⟨w.heap.size, 3, none⟩ = some (.int .i64 0) := cell_of_row w2 _ 3 _ _ _ hz
  have f0 : w2.frozen? ⟨w.heap.size, 0, none⟩ = false := frozen_block hz 0
  have f1 : w2.frozen? ⟨w.heap.size, 1, none⟩ = false := frozen_block hz 1
  have f2 : w2.frozen? ⟨w.heap.size, 2, none⟩ = false := frozen_block hz 2
  have f3 : w2.frozen? ⟨w.heap.size, 3, none⟩ = false := frozen_block hz 3
  have HB := Lib.hid (HB0.out.trans (hB.mono HB0.out.size))
  clear hB
  go_wp2_with fail
  have hk4 := setCell_block' (o := 3) (v := .int .i64 r4) (setCell_block' (o := 2) (v := .int .i64 r3) (setCell_block' (o := 1) (v := .int .i64 r2) (setCell_block' (o := 0) (v := .int .i64 r1) hz)))
  have hkS : Keeps (fun k => k = w.heap.size) w2 _ := (((Keeps.refl (fun k => k = w.heap.size) w2).setCell (p := ⟨w.heap.size, 0, none⟩) (fun _ => rfl) (.int .i64 r1)).setCell (p := ⟨w.heap.size, 1, none⟩) (fun _ => rfl) (.int .i64 r2)).setCell (p := ⟨w.heap.size, 2, none⟩) (fun _ => rfl) (.int .i64 r3)
  have hkS := hkS.setCell (p := ⟨w.heap.size, 3, none⟩) (fun _ => rfl) (.int .i64 r4)
  generalize (((w2.setCell ⟨w.heap.size, 0, none⟩ (.int .i64 r1)).setCell ⟨w.heap.size, 1, none⟩ (.int .i64 r2)).setCell ⟨w.heap.size, 2, none⟩ (.int .i64 r3)).setCell ⟨w.heap.size, 3, none⟩ (.int .i64 r4) = w4 at hk4 hkS ⊢
  have q0 : w4.cell? ⟨w.heap.size, 0, none⟩ = some (.int .i64 r1) := cell_of_row w4 _ 0 _ _ _ hk4
  have q1 : w4.cell? ⟨w.heap.size, 1, none⟩ = some (.int .i64 r2) := cell_of_row w4 _ 1 _ _ _ hk4
  have q2 : w4.cell? ⟨w.heap.size, 2, none⟩ = some (.int .i64 r3) := cell_of_row w4 _ 2 _ _ _ hk4
  have q3 : w4.cell? ⟨w.heap.size, 3, none⟩ = some (.int .i64 r4) := cell_of_row w4 _ 3 _ _ _ hk4
  refine bodyPost_ret (v := .tuple #[.agg #[.int .i64 r1, .int .i64 r2, .int .i64 r3, .int .i64 r4], .int .i64 r5]) (by simp [results, Tryz.results46, go_sem, q0, q1, q2, q3]) rfl ⟨rfl, HB.out.trans (hkS.below HB.out.size (fun k e => by omega))⟩
end

set_option maxRecDepth 8000 in
set_option maxHeartbeats 2000000 in
theorem sclone_any (w : World) (p : Nat) (s : St) (F W : Nat → Prop) (h : StAt w p s F W) (hL : s.L.length ≤ 1000000) (hT : s.T.length ≤ 1000000) :
    Calls Tryz.prog 17 #[.pointer (some ⟨p, 0, none⟩)] w fun e w' => ∃ q W', e = .returned (.pointer (some ⟨q, 0, none⟩)) ∧ w.heap.size ≤ q ∧ (∀ k, W' k → w.heap.size ≤ k) ∧ Below w.heap.size w w' ∧
      StAt w' q s (fun k => (F k ∧ ¬ W k) ∨ (w.heap.size ≤ k ∧ k < w'.heap.size)) W' := by
  obtain ⟨px, pt, FX, FT, GT, h⟩ := h
  have c0 := h.c0
  have c1 := h.c1
  have c2 := h.c2
  have hpl := h.lt _ (h.wf _ h.wp)
  have H := Lib.hid h
  clear h
  go_enter Tryz.func17, Tryz.ntmps17
  go_wp2_with fail
  go_region_held3 (fun x => x.cell? ⟨p, 0, none⟩ = some (.pointer (some ⟨px, 0, none⟩)) ∧ x.cell? ⟨p, 1, none⟩ = some (.pointer (some ⟨pt, 0, none⟩)) ∧ x.cell? ⟨p, 2, none⟩ = some (.int .i64 s.ap))
    (first | exact ⟨by assumption, by assumption, by assumption⟩ | go_keep)
    (first
      | (go_at_call 50
         refine (Idx.clone_any _ px s.L FX (H.out.idx.fresh (show Below w.heap.size w w.drew from ⟨rfl, rfl, rfl, Nat.le_refl _, fun _ _ => rfl⟩)) hL).mono ?_
         rintro e w2 ⟨rfl, hB2, hX2⟩
         have HB2 := Lib.hid (show Below w.heap.size w w2 from (show Below w.heap.size w w.drew from ⟨rfl, rfl, rfl, Nat.le_refl _, fun _ _ => rfl⟩).trans hB2)
         have HX2 := Lib.hid hX2
         have y0 := (HB2.out.cell (p := ⟨p, 0, none⟩) hpl).trans c0
         have y1 := (HB2.out.cell (p := ⟨p, 1, none⟩) hpl).trans c1
         have y2 := (HB2.out.cell (p := ⟨p, 2, none⟩) hpl).trans c2
         clear hB2 hX2)
      | (go_at_call 51
         refine (Ded.clone_any w2 pt s.T FT GT (H.out.fresh HB2.out).tab hT).mono ?_
         rintro e w3 ⟨rfl, hB3, hT3⟩
         have HB3 := Lib.hid (show Below w.heap.size w w3 from HB2.out.trans (hB3.mono HB2.out.size))
         have HX3 := Lib.hid (HX2.out.fresh hB3)
         have HT3 := Lib.hid hT3
         have v0 := (HB3.out.cell (p := ⟨p, 0, none⟩) hpl).trans c0
         have v1 := (HB3.out.cell (p := ⟨p, 1, none⟩) hpl).trans c1
         have v2 := (HB3.out.cell (p := ⟨p, 2, none⟩) hpl).trans c2
         have hlt3 := Lib.hid hB3.size
         clear hB3 hT3))
  go_wp2_with fail
  go_ret
  obtain ⟨hs2, hs3⟩ : w.heap.size + 1 < w2.heap.size ∧ w2.heap.size + 1 < w3.heap.size := by
    obtain ⟨bm, V, n, h1⟩ := HX2.out
    obtain ⟨bm', R, h2, _⟩ := HT3.out
    exact ⟨h1.lt _ h1.fp, h2.lt _ h2.fp⟩
  have hh := H.out
  have hBa : Below w3.heap.size w3 (w3.alloc (.cells #[.pointer (some ⟨w.heap.size + 1, 0, none⟩), .pointer (some ⟨w2.heap.size + 1, 0, none⟩), .int .i64 s.ap] 72)) := (Below.refl _ _).alloc (Nat.le_refl _) _
  have hlF : ∀ k, FT k → k < w.heap.size := fun k hk => hh.lt k (hh.ft k hk)
  refine ⟨w3.heap.size, fun k => (w.heap.size ≤ k ∧ k < w2.heap.size) ∨ (w2.heap.size ≤ k ∧ k < w3.heap.size ∧ k ≠ w2.heap.size + 1) ∨ k = w3.heap.size, rfl, by omega, fun k hk => by omega, HB3.out.alloc HB3.out.size _, w.heap.size + 1, w2.heap.size + 1, _, _, _, heap_alloc_new w3 _, HX3.out.fresh hBa, HT3.out.fresh hBa, ?_, ?_, ?_, ?_, ?_, ?_, ?_, ?_, ?_, ?_⟩
  · rintro k ⟨hk1, hk2⟩ (hk | hk)
    · have := hlF k hk.1
      have : w.heap.size ≤ k := hk1
      omega
    · omega
  · rintro ⟨_, hk⟩; omega
  · rintro (hk | hk)
    · have := hlF _ hk.1; omega
    · omega
  · intro k hk; exact .inl hk
  · intro k hk; exact .inr (.inl hk)
  · exact .inr (.inr rfl)
  · rintro k (hk | hk) hk'
    · have := hlF _ hk.1; omega
    · exact ⟨hk.1, hk.2, by omega⟩
  · rintro k (hk | hk)
    · exact .inl ⟨hh.ft k hk.1, fun hw => hk.2 (hh.tw k hk.1 hw)⟩
    · exact .inr (by rw [World.size_alloc]; omega)
  · intro k hk; exact .inr (by rw [World.size_alloc]; omega)
  · rintro k (hk | hk)
    · have := hh.lt k hk.1; rw [World.size_alloc]; omega
    · exact hk.2
end Go.Proofs.YtlfhokcjbgpjhaaGreatDoor
