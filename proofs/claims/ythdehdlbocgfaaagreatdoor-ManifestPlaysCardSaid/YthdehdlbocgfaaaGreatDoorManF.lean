/- The manifest's law: shown. Under the stated premises on sizes. -/
import Derived.Test.YthdehdlbocgfaaaGreatDoorManE
namespace Go.Proofs.YthdehdlbocgfaaaGreatDoor
open Go.RowKit Go.Bl
attribute [local go_sem ↓] Go.wp_at_zero Go.wp_at_succ

/-- A pair's block: the two disks; and a disk that keeps away from it. -/
structure Pr (w0 w : World) (b p pm : Nat) (d : Dk) : Prop where
  blk : w.heap[b]? = some (.cells #[.pointer (some ⟨p, 0, none⟩), .pointer (some ⟨pm, 0, none⟩)] 28 (0, 0))
  new : w0.heap.size ≤ b
  disk : Qd (fun k => k < w0.heap.size ∨ k = b) w p d
  past : Below w0.heap.size w0 w
section
variable {w0 w w' : World} {b p pm : Nat} {d : Dk}
theorem Pr.begin (h : Qd (fun k => k < w0.heap.size) w p d) (hB : Below w0.heap.size w0 w) : Pr w0 (w.alloc (.cells #[.pointer (some ⟨p, 0, none⟩), .pointer (some ⟨pm, 0, none⟩)] 28)) w.heap.size p pm d :=
  ⟨heap_alloc_new w _, hB.size, h.more ((Below.refl _ w).alloc (Nat.le_refl _) _) (fun _ hk => hk.imp id (fun e => Nat.le_of_eq e.symm)) (fun _ hk => by have := hB.size; simp; omega) (fun k hk => .inl (h.low k hk)), hB.alloc hB.size _⟩
theorem Pr.c0 (h : Pr w0 w b p pm d) : w.cell? ⟨b, 0, none⟩ = some (.pointer (some ⟨p, 0, none⟩)) := cell_of_row w b 0 _ _ _ h.blk
theorem Pr.fresh (h : Pr w0 w b p pm d) (hB : Below w.heap.size w w') : Pr w0 w' b p pm d :=
  ⟨(hB.block b (Array.getElem?_eq_some_iff.1 h.blk).1).trans h.blk, h.new, h.disk.fresh hB, h.past.trans (hB.mono h.past.size)⟩
theorem Pr.step (h : Pr w0 w b p pm d) {d' : Dk} (hD : Qd (fun k => k < w0.heap.size ∨ k = b) w' p d') (hk : Kx (fun k => k < w0.heap.size ∨ k = b) w w') : Pr w0 w' b p pm d' :=
  ⟨(hk.block b (Array.getElem?_eq_some_iff.1 h.blk).1 (fun hn => hn (.inr rfl))).trans h.blk, h.new, hD, h.past.trans (hk.below (fun _ hk => .inl hk) h.past.size)⟩
end
set_option maxRecDepth 8000 in
set_option maxHeartbeats 2000000 in
theorem shown_any (w : World) (hT : Tabs w) : Calls Tryz.prog 4 #[] w fun e w' => e = .returned (.bool true) ∧ Below w.heap.size w w' := by
  have HT := Lib.hid hT
  clear hT
  obtain ⟨es1, r1, u1, l1, e1⟩ := (epD_raise (room := 1000) (es := []) (by decide) trivial (by decide) 3).2.2 (by decide) (by decide)
  have r2 := (epD_raise (room := 1000) (es := es1) (by decide) u1 l1 2).2.1 (by decide) (by rw [e1]; decide)
  have m1 := epsS_ep u1
  rw [← epD_mark 1000 es1, e1] at m1
  have R1 := Lib.hid r1
  have R2 := Lib.hid r2
  have M1 := Lib.hid m1
  clear r1 r2 m1 e1
  go_enter Tryz.func4, Tryz.ntmps4
  go_wp2_with fail
  refine (begunQ HT.out 1000 (by decide) (by decide)).mono ?_
  rintro e w1 ⟨p, pm, rfl, hQ, hB⟩
  have hP := Pr.begin (pm := pm) hQ hB
  clear hQ hB
  go_wp2_with fail
  obtain ⟨b, hb⟩ : ∃ b, w1.heap.size = b := ⟨_, rfl⟩
  rw [hb] at hP ⊢
  generalize w1.alloc (.cells #[.pointer (some ⟨p, 0, none⟩), .pointer (some ⟨pm, 0, none⟩)] 28) = w2 at hP ⊢
  have HP := Lib.hid hP
  clear hP hb
  refine (loadNone HP.out.disk rfl).mono ?_
  rintro e w3 ⟨rfl, hB⟩
  have hP3 := HP.out.fresh hB
  have c0 := (hP3.fresh ((Below.refl _ w3).alloc (Nat.le_refl _) (.cells #[.int .i64 1, .slice none 0 0] 37))).c0
  have HP3 := Lib.hid hP3
  clear hB hP3
  go_wp2_with fail
  have hP4 := HP3.out.fresh ((Below.refl _ w3).alloc (Nat.le_refl _) (.cells #[.int .i64 1, .slice none 0 0] 37))
  have hc := raiseQ hP4.disk 3
  rw [show (⟨1000, []⟩ : Dk) = epD 1000 [] from rfl, R1.out] at hc
  refine hc.mono ?_
  clear hc
  rintro e w4 ⟨rfl, hD, hk⟩
  have hP5 := hP4.step hD hk
  have c5 := hP5.c0
  have HP5 := Lib.hid hP5
  clear hP4 hD hk hP5 c0
  go_wp2_with fail
  have hc := raiseQ HP5.out.disk 2
  rw [R2.out] at hc
  refine hc.mono ?_
  clear hc
  rintro e w5 ⟨rfl, hD, hk⟩
  have hP6 := HP5.out.step hD hk
  have c6 := hP6.c0
  have HP6 := Lib.hid hP6
  clear hD hk hP6 c5
  go_wp2_with fail
  have hc := epochQ HP6.out.disk
  rw [M1.out] at hc
  refine hc.mono ?_
  clear hc
  rintro e w6 ⟨rfl, hB⟩
  have HP7 := Lib.hid (HP6.out.fresh hB)
  clear hB
  go_wp2_with fail
  go_ret
  exact ⟨rfl, HP7.out.past⟩
end Go.Proofs.YthdehdlbocgfaaaGreatDoor
