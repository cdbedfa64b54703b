/- The manifest's law: begun, shown. Under the stated premises on sizes. -/
import Derived.Test.YthdehdlbocgfaaaGreatDoorManC
namespace Go.Proofs.YthdehdlbocgfaaaGreatDoor
open Go.RowKit Go.Bl
attribute [local go_sem ↓] Go.wp_at_zero Go.wp_at_succ

theorem new8_any (w : World) (room : Int) (h1 : 1 ≤ room) (h2 : room ≤ 1073741824) : Calls Tryz.prog 19 #[.int .i64 room] w fun e w' => e = .returned (.tuple #[.pointer (some ⟨w.heap.size, 0, none⟩), .int .i64 0]) ∧ Below w.heap.size w w' := by
  have d1 : decide (room < 1) = false := by simp; omega
  have d2 : decide (1073741824 < room) = false := by simp; omega
  go_enter Tryz.func19, Tryz.ntmps19
  go_wp2_with fail
  go_ret2
  exact ⟨rfl, (Below.refl _ _).alloc (Nat.le_refl _) _⟩
set_option maxRecDepth 8000 in
theorem begunQ {w : World} (hT : Tabs w) (room : Int) (h1 : 1 ≤ room) (h2 : room ≤ 1073741824) : Calls Tryz.prog 6 #[.int .i64 room] w fun e w' => ∃ p pm, e = .returned (.tuple #[.agg #[.pointer (some ⟨p, 0, none⟩), .pointer (some ⟨pm, 0, none⟩)], .bool true]) ∧ Qd (fun k => k < w.heap.size) w' p ⟨room, []⟩ ∧ Below w.heap.size w w' := by
  have HT := Lib.hid hT
  have hw1 : Below w.heap.size w (w.alloc (.cells #[.pointer none, .pointer none] 28)) := (Below.refl _ _).alloc (Nat.le_refl _) _
  have hblk := heap_alloc_new w (.cells #[.pointer none, .pointer none] 28)
  go_enter Tryz.func6, Tryz.ntmps6
  go_wp2_with fail
  obtain ⟨b0, hb0⟩ : ∃ b, w.heap.size = b := ⟨_, rfl⟩
  rw [hb0] at hblk
  generalize w.alloc (.cells #[.pointer none, .pointer none] 28) = w1 at hw1 hblk ⊢
  refine (newD w1 (fun k => k < w1.heap.size) (fun _ h => h) room h1 h2).mono ?_
  rintro e w2 ⟨p, rfl, hQ, hB2⟩
  have hb0l : b0 < w1.heap.size := (Array.getElem?_eq_some_iff.1 hblk).1
  have hblk2 := (hB2.block b0 (Array.getElem?_eq_some_iff.1 hblk).1).trans hblk
  clear hblk
  have HB2 := Lib.hid hB2
  have HBK := Lib.hid hblk2
  clear hB2 hblk2
  go_wp2_with fail
  refine (new8_any w2 room h1 h2).mono ?_
  rintro e w3 ⟨rfl, hB3⟩
  have hblk3 := (hB3.block b0 (Array.getElem?_eq_some_iff.1 HBK.out).1).trans HBK.out
  have c0 : w3.cell? ⟨b0, 0, none⟩ = some (.pointer none) := cell_of_row w3 b0 0 _ _ _ hblk3
  have c1 : w3.cell? ⟨b0, 1, none⟩ = some (.pointer none) := cell_of_row w3 b0 1 _ _ _ hblk3
  have f0 : w3.frozen? ⟨b0, 0, none⟩ = false := frozen_block hblk3 0
  have f1 : w3.frozen? ⟨b0, 1, none⟩ = false := frozen_block hblk3 1
  have HQ3 := Lib.hid (hQ.fresh hB3)
  have HP3 := Lib.hid ((hw1.trans (HB2.out.mono hw1.size)).trans (hB3.mono (Nat.le_trans hw1.size HB2.out.size)))
  have HBK3 := Lib.hid hblk3
  clear hblk3 hQ hB3
  go_wp2_with fail
  have k1 := setCell_block (o := 0) HBK3.out (.pointer (some ⟨p, 0, none⟩))
  have k2 := setCell_block (o := 1) k1 (.pointer (some ⟨w2.heap.size, 0, none⟩))
  have q0 := cell_of_row _ b0 0 _ _ _ k2
  have q1 := cell_of_row _ b0 1 _ _ _ k2
  have hk : Keeps (fun k => k < w1.heap.size) w3 ((w3.setCell ⟨b0, 0, none⟩ (.pointer (some ⟨p, 0, none⟩))).setCell ⟨b0, 1, none⟩ (.pointer (some ⟨w2.heap.size, 0, none⟩))) :=
    ((Keeps.refl _ w3).setCell (p := ⟨b0, 0, none⟩) (fun _ => hb0l) _).setCell (p := ⟨b0, 1, none⟩) (fun _ => hb0l) _
  have hb0g : w.heap.size ≤ b0 := Nat.le_of_eq hb0
  have hpast := (HP3.out.setCell (p := ⟨b0, 0, none⟩) hb0g (.pointer (some ⟨p, 0, none⟩))).setCell (p := ⟨b0, 1, none⟩) hb0g (.pointer (some ⟨w2.heap.size, 0, none⟩))
  generalize (w3.setCell ⟨b0, 0, none⟩ (.pointer (some ⟨p, 0, none⟩))).setCell ⟨b0, 1, none⟩ (.pointer (some ⟨w2.heap.size, 0, none⟩)) = w4 at k2 q0 q1 hk hpast ⊢
  refine bodyPost_ret (v := .tuple #[.agg #[.pointer (some ⟨p, 0, none⟩), .pointer (some ⟨w2.heap.size, 0, none⟩)], .bool true]) (by simp [results, Tryz.results6, go_sem, q0, q1]) rfl ⟨p, w2.heap.size, rfl, ⟨HT.out.fresh hpast, fun k hk => Nat.lt_of_lt_of_le hk HT.out.lt, fun k hk => Nat.lt_of_lt_of_le hk hpast.size, ?_⟩, hpast⟩
  exact (HQ3.out.keep hk).more (fun k hk => .inl (Nat.lt_of_lt_of_le hk hw1.size))
set_option maxRecDepth 8000 in
set_option maxHeartbeats 1000000 in
theorem loadNone {X : Nat → Prop} {w : World} {p : Nat} {d : Dk} (h : Qd X w p d) (hf : d.find sFile = none) : Calls Tryz.prog 10 #[.pointer (some ⟨p, 0, none⟩)] w fun e w' => e = .returned (.tuple #[.agg #[.int .i64 1, .slice none 0 0], .int .i64 0]) ∧ Below w.heap.size w w' := by
  have H := Lib.hid h
  have hr : readV (d.find ⟨#[109, 97, 110, 105, 102, 101, 115, 116]⟩) = .tuple #[.string ⟨#[]⟩, .int .i64 6] := by rw [show (⟨#[109, 97, 110, 105, 102, 101, 115, 116]⟩ : ByteArray) = sFile from rfl, hf]; rfl
  have HR := Lib.hid hr
  have hblk := heap_alloc_new w (.cells #[.int .i64 0, .slice none 0 0] 37)
  have hw1 : Below w.heap.size w (w.alloc (.cells #[.int .i64 0, .slice none 0 0] 37)) := (Below.refl _ w).alloc (Nat.le_refl _) _
  have HBK := Lib.hid hblk
  have HW1 := Lib.hid hw1
  clear h hr hblk hw1
  go_enter Tryz.func10, Tryz.ntmps10
  go_wp2_with fail
  have H1 := H.out.fresh HW1.out
  refine (readQ H1 ⟨#[109, 97, 110, 105, 102, 101, 115, 116]⟩ (by decide)).mono ?_
  rintro e w1 ⟨rfl, rfl⟩
  rw [HR.out]
  go_wp2_with fail
  refine bodyPost_ret (v := .tuple #[.agg #[.int .i64 1, .slice none 0 0], .int .i64 0]) (by simp [results, Tryz.results10, go_sem]) rfl ⟨rfl, ?_⟩
  exact ((Below.refl _ w).alloc (Nat.le_refl _) _).alloc (by simp) _
end Go.Proofs.YthdehdlbocgfaaaGreatDoor
