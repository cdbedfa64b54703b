/- The disk: Sync, Delete. Under the stated premises on sizes. -/
import Derived.Test.YtoegdpcfhmjnaaaGreatDoorDskA
namespace Go.Proofs.YtoegdpcfhmjnaaaGreatDoor
open Go.RowKit Go.Bl
attribute [local go_sem ↓] Go.wp_at_zero Go.wp_at_succ

theorem total_upd (x : ByteArray) (g : Fl → Fl) (hg : ∀ f, (g f).bytes = f.bytes) (L : List Fl) : total (updL x g L) = total L := by
  unfold total updL
  rw [List.map_map]
  congr 1
  refine List.map_congr_left fun f _ => ?_
  show (if f.name = x then g f else f).bytes.size = f.bytes.size
  split
  · rw [hg]
  · rfl
theorem filter_all {L : List Fl} {x : ByteArray} (h : ∀ f ∈ L, f.name ≠ x) : L.filter (fun f => decide (f.name ≠ x)) = L := by
  rw [List.filter_eq_self]
  intro f hf
  simpa using h f hf
theorem total_del {L : List Fl} (hn : (L.map Fl.name).Nodup) {f : Fl} (hf : f ∈ L) : total (L.filter fun q => decide (q.name ≠ f.name)) + f.bytes.size = total L := by
  induction L with
  | nil => cases hf
  | cons g L ih =>
    rw [List.map_cons, List.nodup_cons] at hn
    rcases List.mem_cons.1 hf with rfl | hf
    · rw [List.filter_cons_of_neg (by simp), filter_all (fun q hq e => hn.1 (List.mem_map.2 ⟨q, hq, e⟩))]
      show _ = ((f :: L).map _).sum
      rw [List.map_cons, List.sum_cons]
      unfold total
      omega
    · have hne : g.name ≠ f.name := fun e => hn.1 (List.mem_map.2 ⟨f, hf, e.symm⟩)
      rw [List.filter_cons_of_pos (by simpa using hne)]
      have h1 := ih hn.2 hf
      show ((g :: _).map _).sum + _ = ((g :: L).map _).sum
      rw [List.map_cons, List.map_cons, List.sum_cons, List.sum_cons]
      unfold total at h1
      omega
def Dk.del (d : Dk) (x : ByteArray) : Dk := ⟨d.room, d.L.filter fun f => decide (f.name ≠ x)⟩
theorem Dk.Ok.del {d : Dk} (h : d.Ok) (hn : (d.L.map Fl.name).Nodup) (x : ByteArray) : (d.del x).Ok := by
  have hle : total (d.del x).L ≤ total d.L := by
    by_cases hx : ∃ f ∈ d.L, f.name = x
    · obtain ⟨f, hf, rfl⟩ := hx
      have := total_del hn hf
      show total (d.L.filter _) ≤ _
      omega
    · show total (d.L.filter _) ≤ _
      rw [filter_all (fun f hf e => hx ⟨f, hf, e⟩)]
      exact Nat.le_refl _
  refine ⟨h.room1, h.room2, by show (total (d.del x).L : Int) ≤ d.room; have := h.used; omega, Nat.le_trans (List.length_filter_le _ _) h.len, fun f hf => h.syn f (List.mem_filter.1 hf).1, fun f hf => h.nms f (List.mem_filter.1 hf).1⟩
theorem rowsD_del (R : List (Nat × Fl)) (x : ByteArray) : (rowsD R).filter (fun r => decide (r.1 ≠ x)) = rowsD (R.filter fun r => decide (r.2.name ≠ x)) := by
  simp only [rowsD, List.filter_map]; rfl

def syncF (f : Fl) : Fl := { f with syn := f.bytes.size }
def Dk.sync (d : Dk) (x : ByteArray) : Dk := ⟨d.room, updL x syncF d.L⟩
set_option maxHeartbeats 400000 in
theorem sync_no (w : World) (p : Nat) (d : Dk) (F : Nat → Prop) (h : DskAt w p d F) (x : ByteArray) (hx : x.size ≤ maxLen) (hf : d.find x = none) : Calls Tryz.prog 56 #[.pointer (some ⟨p, 0, none⟩), .string x] w fun e w' => e = .returned (.int .i64 6) ∧ w = w' := by
  obtain ⟨bm, R, h⟩ := h
  have c2 := h.c2
  have hl := h.lookN hx (find_none.1 hf)
  clear h hf
  go_enter Tryz.func56, Tryz.ntmps56
  go_wp2
  go_ret
  exact ⟨rfl, rfl⟩
set_option maxHeartbeats 400000 in
theorem sync_yes (w : World) (p : Nat) (d : Dk) (F : Nat → Prop) (h : DskAt w p d F) (f : Fl) (hf : f ∈ d.L) (hx : f.name.size ≤ maxLen) : Calls Tryz.prog 56 #[.pointer (some ⟨p, 0, none⟩), .string f.name] w fun e w' => e = .returned (.int .i64 0) ∧ Keeps F w w' ∧ DskAt w' p (d.sync f.name) F := by
  obtain ⟨bm, R, h⟩ := h
  have c2 := h.c2
  obtain ⟨b, hb⟩ := h.row hf
  have hl := h.lookY hb hx
  have b0 : w.cell? ⟨b, 0, none⟩ = some (.string f.bytes) := cell_of_row w b 0 _ _ _ (h.rows _ hb)
  have b1 : w.cell? ⟨b, 1, none⟩ = some (.int .i64 f.syn) := cell_of_row w b 1 _ _ _ (h.rows _ hb)
  have f1 : w.frozen? ⟨b, 1, none⟩ = false := frozen_block (h.rows _ hb) 1
  have H := Lib.hid h
  clear h
  go_enter Tryz.func56, Tryz.ntmps56
  go_wp2
  go_ret
  have hk : Keeps (fun k => k = b) w (w.setCell ⟨b, 1, none⟩ (.int .i64 f.bytes.size)) := Keeps.one w b 1 _
  have ht := total_upd f.name syncF (fun _ => rfl) d.L
  have hu : d.used = (d.sync f.name).used := by show (total d.L : Int) = (total (updL f.name syncF d.L) : Int); rw [ht]
  refine ⟨rfl, hk.mono (fun k _ e => e ▸ H.out.fr _ hb), bm, _, H.out.toDskR.upd hb (g := syncF) (fun _ => rfl) (hk.mono fun k _ e => .inl e) (setCell_block (o := 1) (H.out.rows _ hb) _) (by rw [← hu]; exact hk.grownTo H.out.blk (fun e => H.out.p_row hb e.symm)),
    H.out.ok.upd H.out.nodup hf (fun _ => rfl) ⟨by show (0 : Int) ≤ (f.bytes.size : Int); omega, Int.le_refl _⟩ (by rw [ht]; exact H.out.ok.used)⟩

set_option maxHeartbeats 400000 in
theorem delete_no (w : World) (p : Nat) (d : Dk) (F : Nat → Prop) (h : DskAt w p d F) (x : ByteArray) (hx : x.size ≤ maxLen) (hf : d.find x = none) : Calls Tryz.prog 57 #[.pointer (some ⟨p, 0, none⟩), .string x] w fun e w' => e = .returned (.int .i64 6) ∧ w = w' := by
  obtain ⟨bm, R, h⟩ := h
  have c2 := h.c2
  have hl := h.lookN hx (find_none.1 hf)
  clear h hf
  go_enter Tryz.func57, Tryz.ntmps57
  go_wp2
  go_ret
  exact ⟨rfl, rfl⟩
set_option maxHeartbeats 1000000 in
theorem delete_in (w : World) (p : Nat) (d : Dk) (F : Nat → Prop) (bm : Nat) (R : List (Nat × Fl)) (h : DskIn w p d F bm R) (f : Fl) (hf : f ∈ d.L) (hx : f.name.size ≤ maxLen) : Calls Tryz.prog 57 #[.pointer (some ⟨p, 0, none⟩), .string f.name] w fun e w' => e = .returned (.int .i64 0) ∧ Keeps (fun k => k = p ∨ k = bm) w w' ∧ DskIn w' p (d.del f.name) F bm (R.filter fun r => decide (r.2.name ≠ f.name)) := by
  have c1 := h.c1
  have c2 := h.c2
  have hp := h.lt p h.fp
  obtain ⟨b, hb⟩ := h.row hf
  have hl := h.lookY hb hx
  have b0 : w.cell? ⟨b, 0, none⟩ = some (.string f.bytes) := cell_of_row w b 0 _ _ _ (h.rows _ hb)
  have f1 : w.frozen? ⟨p, 1, none⟩ = false := frozen_block h.blk 1
  have htot := total_del h.nodup hf
  have hu : IntKind.i64.wrap (d.used - (f.bytes.size : Int)) = (d.del f.name).used := by
    rw [IntWalk.i64_in _ (by unfold Dk.used; have := h.ok.used; have := h.ok.room2; omega)]
    show (total d.L : Int) - _ = (total (d.L.filter _) : Int)
    omega
  have hk1 : Keeps (fun k => k = p) w (w.setCell ⟨p, 1, none⟩ (.int .i64 (d.del f.name).used)).drew := (Keeps.one w p 1 _).drew
  have hblk : (w.setCell ⟨p, 1, none⟩ (.int .i64 (d.del f.name).used)).drew.heap[p]? = _ := setCell_block (o := 1) h.blk (.int .i64 (d.del f.name).used)
  have H := Lib.hid h
  have HK := Lib.hid hk1
  have HB := Lib.hid hblk
  clear h htot hk1 hblk
  go_enter Tryz.func57, Tryz.ntmps57
  go_wp2_with fail
  go_region
  have hk1 := HK.out
  have hblk := HB.out
  clear HK HB
  generalize (w.setCell ⟨p, 1, none⟩ (.int .i64 (d.del f.name).used)).drew = w1 at hk1 hblk ⊢
  have hmap := H.out.map.keep hk1 (fun e => H.out.p_ne e.symm)
  obtain ⟨w2, hrun, hmap2, hgr, hsz, hdr⟩ := hmap.delete lawS strLit_inj Tryz.underlying104 (x := f.name) (keyS hx) 0
  have c2' : w1.cell? ⟨p, 2, none⟩ = some (.map (some bm)) := cell_of_row _ p 2 _ _ _ hblk
  have HB := Lib.hid hblk
  have HM := Lib.hid hmap2
  have HG := Lib.hid (Keeps.of_grown hgr)
  have HK := Lib.hid hk1
  clear hblk hmap hmap2 hgr hsz hdr hk1
  go_wp2_with fail
  go_ret
  have h := H.out
  have hk : Keeps (fun k => k = p ∨ k = bm) w w2 := (HK.out.mono fun _ _ e => .inl e).andThen HG.out (fun k _ e => .inr (by simpa using e.symm))
  have hm := HM.out
  rw [rowsD_del] at hm
  refine ⟨rfl, hk, ?_⟩
  refine ⟨⟨HG.out.grownTo HB.out (fun e => h.p_ne (by simpa using e.symm)), ?_, hm, fun r hr => hk.grownTo (h.rows r (List.mem_filter.1 hr).1) (fun e => ?_), h.dist.sublist (List.Sublist.cons_cons _ (List.Sublist.map _ List.filter_sublist)), h.fp, h.fm,
    fun r hr => h.fr r (List.mem_filter.1 hr).1, fun k hF => Nat.lt_of_lt_of_le (h.lt k hF) hk.size⟩, h.ok.del h.nodup _⟩
  · show _ = d.L.filter _
    rw [← h.rL, List.filter_map]
    rfl
  · rcases e with e | e
    · exact h.p_row (List.mem_filter.1 hr).1 e
    · exact h.r_ne (List.mem_filter.1 hr).1 e
theorem delete_yes (w : World) (p : Nat) (d : Dk) (F : Nat → Prop) (h : DskAt w p d F) (f : Fl) (hf : f ∈ d.L) (hx : f.name.size ≤ maxLen) : Calls Tryz.prog 57 #[.pointer (some ⟨p, 0, none⟩), .string f.name] w fun e w' => e = .returned (.int .i64 0) ∧ Keeps F w w' ∧ DskAt w' p (d.del f.name) F := by
  obtain ⟨bm, R, h⟩ := h
  exact (delete_in w p d F bm R h f hf hx).mono fun _ _ ⟨a, b, c⟩ => ⟨a, b.mono (fun k _ e => by rcases e with rfl | rfl; exact h.fp; exact h.fm), bm, _, c⟩
theorem del_none {d : Dk} {x : ByteArray} (h : d.find x = none) : d.del x = d := by
  unfold Dk.del
  rw [filter_all (find_none.1 h)]
/-- Delete, at whatever name: the error and the disk. -/
theorem delete_any (w : World) (p : Nat) (d : Dk) (F : Nat → Prop) (bm : Nat) (R : List (Nat × Fl)) (h : DskIn w p d F bm R) (x : ByteArray) (hx : x.size ≤ maxLen) : Calls Tryz.prog 57 #[.pointer (some ⟨p, 0, none⟩), .string x] w fun e w' => e = .returned (.int .i64 (if d.find x = none then 6 else 0)) ∧ Keeps (fun k => k = p ∨ k = bm) w w' ∧ DskIn w' p (d.del x) F bm (R.filter fun r => decide (r.2.name ≠ x)) := by
  cases hf : d.find x with
  | none =>
    refine (delete_no w p d F ⟨bm, R, h⟩ x hx hf).mono ?_
    rintro e w' ⟨rfl, rfl⟩
    have : (R.filter fun r => decide (r.2.name ≠ x)) = R := List.filter_eq_self.2 fun r hr => by simpa using find_none.1 hf r.2 (h.mem hr)
    rw [this, del_none hf]
    exact ⟨rfl, Keeps.refl _ _, h⟩
  | some f =>
    obtain ⟨hfL, rfl⟩ := find_some hf
    exact (delete_in w p d F bm R h f hfL hx).mono fun _ _ ⟨a, b, c⟩ => ⟨a, b, c⟩
end Go.Proofs.YtoegdpcfhmjnaaaGreatDoor
