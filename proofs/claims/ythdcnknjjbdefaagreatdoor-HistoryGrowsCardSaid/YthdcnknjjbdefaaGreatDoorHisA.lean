/- The history: counts, request. Under the stated premises on sizes. -/
import Derived.Test.YthdcnknjjbdefaaGreatDoorHisS
import Derived.Test.YthdcnknjjbdefaaGreatDoorCodS
import Derived.Deep.RegionHeld3
import Derived.Deep.DrawnRows
namespace Go.Proofs.YthdcnknjjbdefaaGreatDoor.His
open Go.RowKit Go.Bl
attribute [local go_sem ↓] Go.wp_at_zero Go.wp_at_succ

def opv (o : Hop) : Value := .agg #[.int .i64 o.kind, .int .i64 o.id, .int .i64 o.start, .int .i64 o.end_, .string o.bs, .int .i64 o.bx, .int .i64 o.ses, .int .i64 o.seq, o.bev, .int .i64 o.out.code, .int .i64 o.out.pos, .int .i64 o.out.first, .int .i64 o.out.ver, .string o.stream, .int .i64 o.from_, .int .i64 o.version, o.evv]
set_option maxHeartbeats 1000000 in
theorem counts_any (w : World) (o : Hop) : Calls Tryz.prog 43 #[opv o] w fun e w' => e = .returned (.bool (countsB o)) ∧ Below w.heap.size w w' := by
  unfold opv
  have hB0 : Below w.heap.size w (w.alloc (.cells #[.int .i64 o.kind, .int .i64 o.id, .int .i64 o.start, .int .i64 o.end_, .string o.bs, .int .i64 o.bx, .int .i64 o.ses, .int .i64 o.seq, o.bev, .int .i64 o.out.code, .int .i64 o.out.pos, .int .i64 o.out.first, .int .i64 o.out.ver, .string o.stream, .int .i64 o.from_, .int .i64 o.version, o.evv] 36)) := (Below.refl _ w).alloc (Nat.le_refl _) _
  have hg0 := heap_alloc_new w (.cells #[.int .i64 o.kind, .int .i64 o.id, .int .i64 o.start, .int .i64 o.end_, .string o.bs, .int .i64 o.bx, .int .i64 o.ses, .int .i64 o.seq, o.bev, .int .i64 o.out.code, .int .i64 o.out.pos, .int .i64 o.out.first, .int .i64 o.out.ver, .string o.stream, .int .i64 o.from_, .int .i64 o.version, o.evv] 36)
  obtain ⟨B, hB⟩ : ∃ B, countsB o = B := ⟨_, rfl⟩
  rw [hB]
  have HB := Lib.hid hB
  clear hB
  go_enter Tryz.func43, Tryz.ntmps43
  go_upto_region 1 with (fail)
  generalize w.alloc (.cells #[.int .i64 o.kind, .int .i64 o.id, .int .i64 o.start, .int .i64 o.end_, .string o.bs, .int .i64 o.bx, .int .i64 o.ses, .int .i64 o.seq, o.bev, .int .i64 o.out.code, .int .i64 o.out.pos, .int .i64 o.out.first, .int .i64 o.out.ver, .string o.stream, .int .i64 o.from_, .int .i64 o.version, o.evv] 36) = w0 at hB0 hg0 ⊢
  obtain ⟨g, hg⟩ : ∃ g, w.heap.size = g := ⟨_, rfl⟩
  rw [hg] at hg0 ⊢
  have x0 := cell_of_row w0 g 0 _ _ _ hg0
  have x3 := cell_of_row w0 g 3 _ _ _ hg0
  have x9 := cell_of_row w0 g 9 _ _ _ hg0
  have HB0 := Lib.hid hB0
  clear hg0 hg hB0
  by_cases h1 : 0 ≤ o.end_
  · by_cases h2 : o.kind = 1
    · have d2 : (o.kind != 1) = false := by simp [h2]
      by_cases h3 : o.out.code = 3
      · have d3 : (o.out.code != 3) = false := by simp [h3]
        have HB1 : Hid (B = false) := Lib.hid (by rw [← HB.out]; simp [countsB, h1, h2, h3])
        clear h2 h3
        go_wp2_with fail
        go_ret
        exact ⟨by rw [HB1.out]; rfl, HB0.out⟩
      · have d3 : (o.out.code != 3) = true := by simpa using h3
        have HB1 : Hid (B = true) := Lib.hid (by rw [← HB.out]; simp [countsB, h1, h2, h3])
        clear h2 h3
        go_wp2_with fail
        go_ret
        exact ⟨by rw [HB1.out]; rfl, HB0.out⟩
    · have d2 : (o.kind != 1) = true := by simpa using h2
      have HB1 : Hid (B = true) := Lib.hid (by rw [← HB.out]; simp [countsB, h1, h2])
      clear h2
      go_wp2_with fail
      go_ret
      exact ⟨by rw [HB1.out]; rfl, HB0.out⟩
  · have HB1 : Hid (B = false) := Lib.hid (by rw [← HB.out]; simp [countsB, h1])
    go_wp2_with fail
    go_ret
    exact ⟨by rw [HB1.out]; rfl, HB0.out⟩

def entv (a : Ent) : Value := .agg #[.int .i64 a.pos, .int .i64 a.epoch, .string a.stream, .int .i64 a.expect, .int .i64 a.session, .int .i64 a.seq, a.evv]
set_option maxHeartbeats 1000000 in
theorem request_any (w : World) (a : Ent) (o : Hop) : Calls Tryz.prog 37 #[entv a, opv o] w fun e w' => e = .returned (.bool (reqB a o)) ∧ Below w.heap.size w w' := by
  unfold opv entv
  have hBa : Below w.heap.size w (w.alloc (.cells #[.int .i64 a.pos, .int .i64 a.epoch, .string a.stream, .int .i64 a.expect, .int .i64 a.session, .int .i64 a.seq, a.evv] 55)) := (Below.refl _ w).alloc (Nat.le_refl _) _
  have hga := heap_alloc_new w (.cells #[.int .i64 a.pos, .int .i64 a.epoch, .string a.stream, .int .i64 a.expect, .int .i64 a.session, .int .i64 a.seq, a.evv] 55)
  obtain ⟨B, hB⟩ : ∃ B, reqB a o = B := ⟨_, rfl⟩
  rw [hB]
  have HB := Lib.hid hB
  clear hB
  have HBA := Lib.hid hBa
  have HGA := Lib.hid hga
  obtain ⟨W, hW⟩ : ∃ W, w.alloc (.cells #[.int .i64 a.pos, .int .i64 a.epoch, .string a.stream, .int .i64 a.expect, .int .i64 a.session, .int .i64 a.seq, a.evv] 55) = W := ⟨_, rfl⟩
  have hsz : W.heap.size = w.heap.size + 1 := by rw [← hW, World.size_alloc]
  have HW := Lib.hid hW
  have HSZ := Lib.hid hsz
  clear hBa hga hW hsz
  go_enter Tryz.func37, Tryz.ntmps37
  go_upto_region 1 with (fail)
  rw [HW.out, ← HSZ.out]
  have hga := HGA.out
  have hBa := HBA.out
  rw [HW.out] at hga hBa
  clear HW HBA HGA
  obtain ⟨ga, hgae⟩ : ∃ ga, w.heap.size = ga := ⟨_, rfl⟩
  rw [hgae] at hga ⊢
  have hgal : ga < W.heap.size := (Array.getElem?_eq_some_iff.1 hga).1
  have hBo : Below W.heap.size W (W.alloc (.cells #[.int .i64 o.kind, .int .i64 o.id, .int .i64 o.start, .int .i64 o.end_, .string o.bs, .int .i64 o.bx, .int .i64 o.ses, .int .i64 o.seq, o.bev, .int .i64 o.out.code, .int .i64 o.out.pos, .int .i64 o.out.first, .int .i64 o.out.ver, .string o.stream, .int .i64 o.from_, .int .i64 o.version, o.evv] 36)) := (Below.refl _ W).alloc (Nat.le_refl _) _
  have hg0 := heap_alloc_new W (.cells #[.int .i64 o.kind, .int .i64 o.id, .int .i64 o.start, .int .i64 o.end_, .string o.bs, .int .i64 o.bx, .int .i64 o.ses, .int .i64 o.seq, o.bev, .int .i64 o.out.code, .int .i64 o.out.pos, .int .i64 o.out.first, .int .i64 o.out.ver, .string o.stream, .int .i64 o.from_, .int .i64 o.version, o.evv] 36)
  have hga := (hBo.block ga hgal).trans hga
  generalize W.alloc (.cells #[.int .i64 o.kind, .int .i64 o.id, .int .i64 o.start, .int .i64 o.end_, .string o.bs, .int .i64 o.bx, .int .i64 o.ses, .int .i64 o.seq, o.bev, .int .i64 o.out.code, .int .i64 o.out.pos, .int .i64 o.out.first, .int .i64 o.out.ver, .string o.stream, .int .i64 o.from_, .int .i64 o.version, o.evv] 36) = w0 at hBo hg0 hga ⊢
  have HB0 := Lib.hid (hBa.trans (hBo.mono hBa.size))
  obtain ⟨g, hg⟩ : ∃ g, W.heap.size = g := ⟨_, rfl⟩
  rw [hg] at hg0 ⊢
  have a4 := cell_of_row w0 ga 4 _ _ _ hga
  have a5 := cell_of_row w0 ga 5 _ _ _ hga
  have x6 := cell_of_row w0 g 6 _ _ _ hg0
  have x7 := cell_of_row w0 g 7 _ _ _ hg0
  clear hga hg0 hg hgae hBa hBo hgal HSZ
  by_cases h1 : a.session = o.ses
  · have d1 : (a.session == o.ses) = true := by simpa using h1
    by_cases h2 : a.seq = o.seq
    · have d2 : (a.seq == o.seq) = true := by simpa using h2
      have HB1 : Hid (B = true) := Lib.hid (by rw [← HB.out]; simp [reqB, h1, h2])
      clear h1 h2
      go_wp2_with fail
      go_ret
      exact ⟨by rw [HB1.out]; rfl, HB0.out⟩
    · have d2 : (a.seq == o.seq) = false := by simpa using h2
      have HB1 : Hid (B = false) := Lib.hid (by rw [← HB.out]; simp [reqB, h1, h2])
      clear h1 h2
      go_wp2_with fail
      go_ret
      exact ⟨by rw [HB1.out]; rfl, HB0.out⟩
  · have d1 : (a.session == o.ses) = false := by simpa using h1
    have HB1 : Hid (B = false) := Lib.hid (by rw [← HB.out]; simp [reqB, h1])
    clear h1
    go_wp2_with fail
    go_ret
    exact ⟨by rw [HB1.out]; rfl, HB0.out⟩
end Go.Proofs.YthdcnknjjbdefaaGreatDoor.His
