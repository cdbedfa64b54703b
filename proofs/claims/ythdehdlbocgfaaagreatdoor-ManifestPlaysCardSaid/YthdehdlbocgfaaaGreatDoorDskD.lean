/- The disk: Append. Under the stated premises on sizes. -/
import Derived.Test.YthdehdlbocgfaaaGreatDoorDskA
import Derived.Test.YthdehdlbocgfaaaGreatDoorTxtA
import Derived.Deep.CutBlock
import Derived.Deep.DeepCutAuto
/- The disk: Sync, Delete. Under the stated premises on sizes. -/
namespace Go.Proofs.YthdehdlbocgfaaaGreatDoor
open Go.RowKit Go.Bl
attribute [local go_sem ↓] Go.wp_at_zero Go.wp_at_succ

theorem total_upd (x : ByteArray) (g : Fl → Fl) (hg : ∀ f, (g f).bytes = f.bytes) (L : List Fl) : total (updL x g L) = total L := by
  unfold total updL
  rw [List.map_map]
  congr 1
  refine List.map_congr_left fun f _ => ?_
  show (if f.name = x then g f else f).bytes.size = f.bytes.size
  split
  · rw [hg]
  · rfl
theorem filter_all {L : List Fl} {x : ByteArray} (h : ∀ f ∈ L, f.name ≠ x) : L.filter (fun f => decide (f.name ≠ x)) = L := by
  rw [List.filter_eq_self]
  intro f hf
  simpa using h f hf
theorem total_del {L : List Fl} (hn : (L.map Fl.name).Nodup) {f : Fl} (hf : f ∈ L) : total (L.filter fun q => decide (q.name ≠ f.name)) + f.bytes.size = total L := by
  induction L with
  | nil => cases hf
  | cons g L ih =>
    rw [List.map_cons, List.nodup_cons] at hn
    rcases List.mem_cons.1 hf with rfl | hf
    · rw [List.filter_cons_of_neg (by simp), filter_all (fun q hq e => hn.1 (List.mem_map.2 ⟨q, hq, e⟩))]
      show _ = ((f :: L).map _).sum
      rw [List.map_cons, List.sum_cons]
      unfold total
      omega
    · have hne : g.name ≠ f.name := fun e => hn.1 (List.mem_map.2 ⟨f, hf, e.symm⟩)
      rw [List.filter_cons_of_pos (by simpa using hne)]
      have h1 := ih hn.2 hf
      show ((g :: _).map _).sum + _ = ((g :: L).map _).sum
      rw [List.map_cons, List.map_cons, List.sum_cons, List.sum_cons]
      unfold total at h1
      omega
def Dk.del (d : Dk) (x : ByteArray) : Dk := ⟨d.room, d.L.filter fun f => decide (f.name ≠ x)⟩
theorem Dk.Ok.del {d : Dk} (h : d.Ok) (hn : (d.L.map Fl.name).Nodup) (x : ByteArray) : (d.del x).Ok := by
  have hle : total (d.del x).L ≤ total d.L := by
    by_cases hx : ∃ f ∈ d.L, f.name = x
    · obtain ⟨f, hf, rfl⟩ := hx
      have := total_del hn hf
      show total (d.L.filter _) ≤ _
      omega
    · show total (d.L.filter _) ≤ _
      rw [filter_all (fun f hf e => hx ⟨f, hf, e⟩)]
      exact Nat.le_refl _
  refine ⟨h.room1, h.room2, by show (total (d.del x).L : Int) ≤ d.room; have := h.used; omega, Nat.le_trans (List.length_filter_le _ _) h.len, fun f hf => h.syn f (List.mem_filter.1 hf).1, fun f hf => h.nms f (List.mem_filter.1 hf).1⟩
theorem rowsD_del (R : List (Nat × Fl)) (x : ByteArray) : (rowsD R).filter (fun r => decide (r.1 ≠ x)) = rowsD (R.filter fun r => decide (r.2.name ≠ x)) := by
  simp only [rowsD, List.filter_map]; rfl

def syncF (f : Fl) : Fl := { f with syn := f.bytes.size }
def Dk.sync (d : Dk) (x : ByteArray) : Dk := ⟨d.room, updL x syncF d.L⟩
set_option maxHeartbeats 400000 in
theorem sync_no (w : World) (p : Nat) (d : Dk) (F : Nat → Prop) (h : DskAt w p d F) (x : ByteArray) (hx : x.size ≤ maxLen) (hf : d.find x = none) : Calls Tryz.prog 44 #[.pointer (some ⟨p, 0, none⟩), .string x] w fun e w' => e = .returned (.int .i64 6) ∧ w = w' := by
  obtain ⟨bm, R, h⟩ := h
  have c2 := h.c2
  have hl := h.lookN hx (find_none.1 hf)
  clear h hf
  go_enter Tryz.func44, Tryz.ntmps44
  go_wp2
  go_ret
  exact ⟨rfl, rfl⟩
set_option maxHeartbeats 400000 in
theorem sync_yes (w : World) (p : Nat) (d : Dk) (F : Nat → Prop) (h : DskAt w p d F) (f : Fl) (hf : f ∈ d.L) (hx : f.name.size ≤ maxLen) : Calls Tryz.prog 44 #[.pointer (some ⟨p, 0, none⟩), .string f.name] w fun e w' => e = .returned (.int .i64 0) ∧ Keeps F w w' ∧ DskAt w' p (d.sync f.name) F := by
  obtain ⟨bm, R, h⟩ := h
  have c2 := h.c2
  obtain ⟨b, hb⟩ := h.row hf
  have hl := h.lookY hb hx
  have b0 : w.cell? ⟨b, 0, none⟩ = some (.string f.bytes) := cell_of_row w b 0 _ _ _ (h.rows _ hb)
  have b1 : w.cell? ⟨b, 1, none⟩ = some (.int .i64 f.syn) := cell_of_row w b 1 _ _ _ (h.rows _ hb)
  have f1 : w.frozen? ⟨b, 1, none⟩ = false := frozen_block (h.rows _ hb) 1
  have H := Lib.hid h
  clear h
  go_enter Tryz.func44, Tryz.ntmps44
  go_wp2
  go_ret
  have hk : Keeps (fun k => k = b) w (w.setCell ⟨b, 1, none⟩ (.int .i64 f.bytes.size)) := Keeps.one w b 1 _
  have ht := total_upd f.name syncF (fun _ => rfl) d.L
  have hu : d.used = (d.sync f.name).used := by show (total d.L : Int) = (total (updL f.name syncF d.L) : Int); rw [ht]
  refine ⟨rfl, hk.mono (fun k _ e => e ▸ H.out.fr _ hb), bm, _, H.out.toDskR.upd hb (g := syncF) (fun _ => rfl) (hk.mono fun k _ e => .inl e) (setCell_block (o := 1) (H.out.rows _ hb) _) (by rw [← hu]; exact hk.grownTo H.out.blk (fun e => H.out.p_row hb e.symm)),
    H.out.ok.upd H.out.nodup hf (fun _ => rfl) ⟨by show (0 : Int) ≤ (f.bytes.size : Int); omega, Int.le_refl _⟩ (by rw [ht]; exact H.out.ok.used)⟩

set_option maxHeartbeats 400000 in
theorem delete_no (w : World) (p : Nat) (d : Dk) (F : Nat → Prop) (h : DskAt w p d F) (x : ByteArray) (hx : x.size ≤ maxLen) (hf : d.find x = none) : Calls Tryz.prog 27 #[.pointer (some ⟨p, 0, none⟩), .string x] w fun e w' => e = .returned (.int .i64 6) ∧ w = w' := by
  obtain ⟨bm, R, h⟩ := h
  have c2 := h.c2
  have hl := h.lookN hx (find_none.1 hf)
  clear h hf
  go_enter Tryz.func27, Tryz.ntmps27
  go_wp2
  go_ret
  exact ⟨rfl, rfl⟩
set_option maxHeartbeats 1000000 in
theorem delete_in (w : World) (p : Nat) (d : Dk) (F : Nat → Prop) (bm : Nat) (R : List (Nat × Fl)) (h : DskIn w p d F bm R) (f : Fl) (hf : f ∈ d.L) (hx : f.name.size ≤ maxLen) : Calls Tryz.prog 27 #[.pointer (some ⟨p, 0, none⟩), .string f.name] w fun e w' => e = .returned (.int .i64 0) ∧ Keeps (fun k => k = p ∨ k = bm) w w' ∧ DskIn w' p (d.del f.name) F bm (R.filter fun r => decide (r.2.name ≠ f.name)) := by
  have c1 := h.c1
  have c2 := h.c2
  have hp := h.lt p h.fp
  obtain ⟨b, hb⟩ := h.row hf
  have hl := h.lookY hb hx
  have b0 : w.cell? ⟨b, 0, none⟩ = some (.string f.bytes) := cell_of_row w b 0 _ _ _ (h.rows _ hb)
  have f1 : w.frozen? ⟨p, 1, none⟩ = false := frozen_block h.blk 1
  have htot := total_del h.nodup hf
  have hu : IntKind.i64.wrap (d.used - (f.bytes.size : Int)) = (d.del f.name).used := by
    rw [IntWalk.i64_in _ (by unfold Dk.used; have := h.ok.used; have := h.ok.room2; omega)]
    show (total d.L : Int) - _ = (total (d.L.filter _) : Int)
    omega
  have hk1 : Keeps (fun k => k = p) w (w.setCell ⟨p, 1, none⟩ (.int .i64 (d.del f.name).used)).drew := (Keeps.one w p 1 _).drew
  have hblk : (w.setCell ⟨p, 1, none⟩ (.int .i64 (d.del f.name).used)).drew.heap[p]? = _ := setCell_block (o := 1) h.blk (.int .i64 (d.del f.name).used)
  have H := Lib.hid h
  have HK := Lib.hid hk1
  have HB := Lib.hid hblk
  clear h htot hk1 hblk
  go_enter Tryz.func27, Tryz.ntmps27
  go_wp2_with fail
  go_region
  have hk1 := HK.out
  have hblk := HB.out
  clear HK HB
  generalize (w.setCell ⟨p, 1, none⟩ (.int .i64 (d.del f.name).used)).drew = w1 at hk1 hblk ⊢
  have hmap := H.out.map.keep hk1 (fun e => H.out.p_ne e.symm)
  obtain ⟨w2, hrun, hmap2, hgr, hsz, hdr⟩ := hmap.delete lawS strLit_inj Tryz.underlying79 (x := f.name) (keyS hx) 0
  have c2' : w1.cell? ⟨p, 2, none⟩ = some (.map (some bm)) := cell_of_row _ p 2 _ _ _ hblk
  have HB := Lib.hid hblk
  have HM := Lib.hid hmap2
  have HG := Lib.hid (Keeps.of_grown hgr)
  have HK := Lib.hid hk1
  clear hblk hmap hmap2 hgr hsz hdr hk1
  go_wp2_with fail
  go_ret
  have h := H.out
  have hk : Keeps (fun k => k = p ∨ k = bm) w w2 := (HK.out.mono fun _ _ e => .inl e).andThen HG.out (fun k _ e => .inr (by simpa using e.symm))
  have hm := HM.out
  rw [rowsD_del] at hm
  refine ⟨rfl, hk, ?_⟩
  refine ⟨⟨HG.out.grownTo HB.out (fun e => h.p_ne (by simpa using e.symm)), ?_, hm, fun r hr => hk.grownTo (h.rows r (List.mem_filter.1 hr).1) (fun e => ?_), h.dist.sublist (List.Sublist.cons_cons _ (List.Sublist.map _ List.filter_sublist)), h.fp, h.fm,
    fun r hr => h.fr r (List.mem_filter.1 hr).1, fun k hF => Nat.lt_of_lt_of_le (h.lt k hF) hk.size⟩, h.ok.del h.nodup _⟩
  · show _ = d.L.filter _
    rw [← h.rL, List.filter_map]
    rfl
  · rcases e with e | e
    · exact h.p_row (List.mem_filter.1 hr).1 e
    · exact h.r_ne (List.mem_filter.1 hr).1 e
theorem delete_yes (w : World) (p : Nat) (d : Dk) (F : Nat → Prop) (h : DskAt w p d F) (f : Fl) (hf : f ∈ d.L) (hx : f.name.size ≤ maxLen) : Calls Tryz.prog 27 #[.pointer (some ⟨p, 0, none⟩), .string f.name] w fun e w' => e = .returned (.int .i64 0) ∧ Keeps F w w' ∧ DskAt w' p (d.del f.name) F := by
  obtain ⟨bm, R, h⟩ := h
  exact (delete_in w p d F bm R h f hf hx).mono fun _ _ ⟨a, b, c⟩ => ⟨a, b.mono (fun k _ e => by rcases e with rfl | rfl; exact h.fp; exact h.fm), bm, _, c⟩
theorem del_none {d : Dk} {x : ByteArray} (h : d.find x = none) : d.del x = d := by
  unfold Dk.del
  rw [filter_all (find_none.1 h)]
/-- Delete, at whatever name: the error and the disk. -/
theorem delete_any (w : World) (p : Nat) (d : Dk) (F : Nat → Prop) (bm : Nat) (R : List (Nat × Fl)) (h : DskIn w p d F bm R) (x : ByteArray) (hx : x.size ≤ maxLen) : Calls Tryz.prog 27 #[.pointer (some ⟨p, 0, none⟩), .string x] w fun e w' => e = .returned (.int .i64 (if d.find x = none then 6 else 0)) ∧ Keeps (fun k => k = p ∨ k = bm) w w' ∧ DskIn w' p (d.del x) F bm (R.filter fun r => decide (r.2.name ≠ x)) := by
  cases hf : d.find x with
  | none =>
    refine (delete_no w p d F ⟨bm, R, h⟩ x hx hf).mono ?_
    rintro e w' ⟨rfl, rfl⟩
    have : (R.filter fun r => decide (r.2.name ≠ x)) = R := List.filter_eq_self.2 fun r hr => by simpa using find_none.1 hf r.2 (h.mem hr)
    rw [this, del_none hf]
    exact ⟨rfl, Keeps.refl _ _, h⟩
  | some f =>
    obtain ⟨hfL, rfl⟩ := find_some hf
    exact (delete_in w p d F bm R h f hfL hx).mono fun _ _ ⟨a, b, c⟩ => ⟨a, b, c⟩
end Go.Proofs.YthdehdlbocgfaaaGreatDoor

namespace Go.Proofs.YthdehdlbocgfaaaGreatDoor
open Go.RowKit Go.Bl
attribute [local go_sem ↓] Go.wp_at_zero Go.wp_at_succ

def growF (s : ByteArray) (f : Fl) : Fl := { f with bytes := f.bytes ++ s }
def Dk.grow (d : Dk) (x s : ByteArray) : Dk := ⟨d.room, updL x (growF s) d.L⟩
def Dk.put (d : Dk) (x s : ByteArray) : Dk := ⟨d.room, d.L ++ [⟨x, s, 0⟩]⟩
/-- Append: the error and the disk. -/
def Dk.app (d : Dk) (x s : ByteArray) : Int × Dk :=
  if nameB x = false then (1, d)
  else match d.find x with
    | none => if 40 ≤ d.L.length then (4, d) else if d.room - d.used < s.size then (8, d) else (0, d.put x s)
    | some _ => if d.room - d.used < s.size then (8, d) else (0, d.grow x s)
theorem total_append (L M : List Fl) : total (L ++ M) = total L + total M := by simp [total]
theorem total_grow (s : ByteArray) : ∀ (L : List Fl) (f : Fl), (L.map Fl.name).Nodup → f ∈ L → total (updL f.name (growF s) L) = total L + s.size
  | g :: L, f, hn, hf => by
    rw [List.map_cons, List.nodup_cons] at hn
    rcases List.mem_cons.1 hf with rfl | hf
    · have h0 : updL f.name (growF s) L = L := by
        unfold updL
        conv => rhs; rw [← List.map_id L]
        refine List.map_congr_left fun q hq => ?_
        rw [if_neg (fun e => hn.1 (List.mem_map.2 ⟨q, hq, e⟩))]
        rfl
      show total ((if f.name = f.name then growF s f else f) :: updL f.name (growF s) L) = _
      rw [if_pos rfl, h0]
      show ((growF s f :: L).map fun f => f.bytes.size).sum = ((f :: L).map fun f => f.bytes.size).sum + _
      rw [List.map_cons, List.map_cons, List.sum_cons, List.sum_cons]
      show (f.bytes ++ s).size + _ = _
      rw [ByteArray.size_append]
      omega
    · have hne : g.name ≠ f.name := fun e => hn.1 (List.mem_map.2 ⟨f, hf, e.symm⟩)
      show total ((if g.name = f.name then growF s g else g) :: updL f.name (growF s) L) = _
      rw [if_neg hne]
      have := total_grow s L f hn.2 hf
      show ((g :: _).map fun f => f.bytes.size).sum = ((g :: L).map fun f => f.bytes.size).sum + _
      rw [List.map_cons, List.map_cons, List.sum_cons, List.sum_cons]
      unfold total at this
      omega
/-- One file more. -/
theorem DskR.ins {w w' : World} {p : Nat} {room u u' : Int} {L : List Fl} {F : Nat → Prop} {bm : Nat} {R : List (Nat × Fl)} (h : DskR w p room u L F bm R) {b : Nat} {f : Fl} (hbl : w.heap.size ≤ b)
    (hk : Keeps (fun k => k = bm ∨ k = p) w w') (hmap : MapL w' Tryz.prog 9 strLit bm (rowsD R ++ [(f.name, ptr b)])) (hblk : w'.heap[b]? = some (.cells (flc f).toArray 100 (0, 0))) (hp : w'.heap[p]? = some (.cells #[.int .i64 room, .int .i64 u', .map (some bm)] 81 (0, 0))) :
    DskR w' p room u' (L ++ [f]) (fun k => F k ∨ (w.heap.size ≤ k ∧ k < w'.heap.size)) bm (R ++ [(b, f)]) := by
  have hb' := (Array.getElem?_eq_some_iff.1 hblk).1
  refine ⟨hp, by rw [List.map_append, h.rL]; rfl, by unfold rowsD at hmap ⊢; rw [List.map_append]; exact hmap, fun r hr => ?_, ?_, .inl h.fp, .inl h.fm, fun r hr => ?_, fun k hk2 => hk2.elim (fun e => Nat.lt_of_lt_of_le (h.lt k e) hk.size) (fun e => e.2)⟩
  · rcases List.mem_append.1 hr with hr | hr
    · exact hk.grownTo (h.rows r hr) (fun e => e.elim (fun e => h.r_ne hr e) (fun e => h.p_row hr e))
    · obtain rfl := List.mem_singleton.1 hr
      exact hblk
  · rw [List.map_append, ← List.cons_append, List.nodup_append]
    refine ⟨h.dist, by simp, fun a ha c hc => ?_⟩
    simp only [List.map_cons, List.map_nil, List.mem_singleton] at hc
    have : a < w.heap.size := by
      rcases List.mem_cons.1 ha with rfl | ha
      · exact h.lt _ h.fp
      · obtain ⟨r, hr, rfl⟩ := List.mem_map.1 ha
        exact h.lt _ (h.fr r hr)
    omega
  · rcases List.mem_append.1 hr with hr | hr
    · exact .inl (h.fr r hr)
    · obtain rfl := List.mem_singleton.1 hr
      exact .inr ⟨hbl, hb'⟩
theorem Dk.Ok.ins {d : Dk} (h : d.Ok) {x s : ByteArray} (hx : x.size ≤ 1000000) (hl : d.L.length < 40) (hr : ¬ d.room - d.used < s.size) : (d.put x s).Ok := by
  refine ⟨h.room1, h.room2, ?_, by show (d.L ++ _).length ≤ 40; simp; omega, fun f hf => ?_, fun f hf => ?_⟩
  · show (total (d.L ++ [⟨x, s, 0⟩]) : Int) ≤ d.room
    rw [total_append]
    show ((total d.L + (s.size + 0) : Nat) : Int) ≤ _
    unfold Dk.used at hr
    omega
  · rcases List.mem_append.1 hf with hf | hf
    · exact h.syn f hf
    · obtain rfl := List.mem_singleton.1 hf
      exact ⟨Int.le_refl _, by show (0 : Int) ≤ (s.size : Int); omega⟩
  · rcases List.mem_append.1 hf with hf | hf
    · exact h.nms f hf
    · obtain rfl := List.mem_singleton.1 hf
      exact hx

set_option maxHeartbeats 2000000 in
set_option maxRecDepth 8000 in
theorem append_any (w : World) (p : Nat) (d : Dk) (F : Nat → Prop) (h : DskAt w p d F) (hT : Tabs w) (x s : ByteArray) (hx : x.size ≤ 1000000) (hs : s.size ≤ 1000000000000000) :
    Calls Tryz.prog 23 #[.pointer (some ⟨p, 0, none⟩), .string x, .string s] w fun e w' => e = .returned (.int .i64 (d.app x s).1) ∧ Keeps F w w' ∧ DskAt w' p (d.app x s).2 (fun k => F k ∨ (w.heap.size ≤ k ∧ k < w'.heap.size)) := by
  obtain ⟨bm, R, h⟩ := h
  have c2 := h.c2
  have hu0 : 0 ≤ d.used := by unfold Dk.used; omega
  have hu1 : d.used ≤ d.room := h.ok.used
  have hr2 := h.ok.room2
  have hr1 := h.ok.room1
  have hxm : x.size ≤ maxLen := by unfold maxLen; omega
  have HT := Lib.hid hT
  have H := Lib.hid h
  have hsame : ∀ w', Below w.heap.size w w' → DskAt w' p d (fun k => F k ∨ (w.heap.size ≤ k ∧ k < w'.heap.size)) := fun w' hB =>
    (DskAt.fresh ⟨bm, R, h⟩ hB).mono (fun k e => .inl e) (fun k e => e.elim (fun e => Nat.lt_of_lt_of_le (h.lt k e) hB.size) (fun e => e.2))
  have HS := Lib.hid hsame
  have Hn : Hid (x.size ≤ 1000000000000000) := Lib.hid (by omega)
  have Hx := Lib.hid hx
  clear hT h hsame hx
  cases hf : d.find x with
  | none =>
    have hl := H.out.lookN hxm (find_none.1 hf)
    have HF := Lib.hid hf
    clear hf
    go_enter Tryz.func23, Tryz.ntmps23
    go_wp2_with fail
    refine (name_any w HT.out x Hn.out).mono ?_
    rintro e w1 ⟨rfl, hB1⟩
    have H1 := Lib.hid (H.out.keep (Keeps.of_fresh hB1 fun _ => False) (fun _ _ => id))
    have c0 := H1.out.c0
    have c1 := H1.out.c1
    have c2 := H1.out.c2
    have hml := H1.out.maplen
    have HB1 := Lib.hid hB1
    clear hB1
    cases hn : nameB x
    · go_wp2_with fail
      go_ret
      have : d.app x s = (1, d) := by unfold Dk.app; rw [if_pos hn]
      rw [this]
      exact ⟨rfl, Keeps.of_fresh HB1.out F, HS.out _ HB1.out⟩
    · by_cases h40 : 40 ≤ d.L.length
      · have d40 : decide ((40 : Int) ≤ (d.L.length : Int)) = true := by simp; omega
        go_wp2_with fail
        go_ret
        have : d.app x s = (4, d) := by unfold Dk.app; rw [if_neg (by rw [hn]; decide), HF.out]; show (if _ then _ else _) = _; rw [if_pos h40]
        rw [this]
        exact ⟨rfl, Keeps.of_fresh HB1.out F, HS.out _ HB1.out⟩
      · have d40 : decide ((40 : Int) ≤ (d.L.length : Int)) = false := by simp; omega
        by_cases hfull : d.room - d.used < s.size
        · have d8 : decide (d.room - d.used < (s.size : Int)) = true := by simp; omega
          go_wp2_with fail
          go_quiet (fail)
          go_wp2_with fail
          go_ret
          have hB2 : Below w.heap.size w (w1.drewN nq) := HB1.out.trans ⟨rfl, rfl, rfl, Nat.le_refl _, fun _ _ => rfl⟩
          have : d.app x s = (8, d) := by unfold Dk.app; rw [if_neg (by rw [hn]; decide), HF.out]; show (if _ then _ else _) = _; rw [if_neg h40, if_pos hfull]
          rw [this]
          exact ⟨rfl, Keeps.of_fresh hB2 F, HS.out _ hB2⟩
        · have d8 : decide (d.room - d.used < (s.size : Int)) = false := by simp; omega
          have hlen := H1.out.len
          go_wp2_with fail
          go_quiet (fail)
          have hB2 : Below w.heap.size w (w1.drewN nq) := HB1.out.trans ⟨rfl, rfl, rfl, Nat.le_refl _, fun _ _ => rfl⟩
          generalize w1.drewN nq = w2 at hB2 ⊢
          have h2 := H.out.keep (Keeps.of_fresh hB2 fun _ => False) (fun _ _ => id)
          have HB2 := Lib.hid hB2
          clear c0 c1 c2 hml H1 HB1 hl hlen
          go_upto_region 10 with (fail)
          have hblk3 := heap_alloc_new w2 (.cells #[.string ⟨#[]⟩, .int .i64 0] 100)
          have hk3 := (Keeps.refl (fun _ => False) w2).alloc (.cells #[.string ⟨#[]⟩, .int .i64 0] 100)
          generalize w2.alloc (.cells #[.string ⟨#[]⟩, .int .i64 0] 100) = w3 at hblk3 hk3 ⊢
          have h3 := h2.keep hk3 (fun _ _ => id)
          have hbw := h2.lt
          obtain ⟨b, hb⟩ : ∃ b, w2.heap.size = b := ⟨_, rfl⟩
          rw [hb] at hblk3 hbw ⊢
          have c2 := h3.c2
          obtain ⟨w4, hrun, hmap4, hgr4, hsz4, _⟩ := h3.map.store lawS strLit_inj Tryz.underlying79 (by rw [rowsD_len, h3.len]; unfold maxLen; omega) (x := x) (keyS hxm) (getD_none fun r hr e => find_none.1 HF.out r.2 (h3.mem hr) e) (.pointer (some ⟨b, 0, none⟩))
          have hk4 : Keeps (fun k => k = bm) w3 w4 := (Keeps.of_grown hgr4).mono fun _ _ e => by simpa using e.symm
          have hbm := hbw bm h2.fm
          have hblk4 := hk4.grownTo hblk3 (fun e => by omega)
          have hp4 := hk4.grownTo h3.blk h3.p_ne
          have HM4 := Lib.hid hmap4
          have HK4 := Lib.hid hk4
          have HK3 := Lib.hid hk3
          have H3 := Lib.hid h3
          have H2 := Lib.hid h2
          have hpb : p < b := hbw p h2.fp
          clear hmap4 hgr4 hsz4 hk4 hk3 h3 h2 hbw
          go_upto_region 11 with (fail)
          have b0 : w4.cell? ⟨b, 0, none⟩ = some (.string ⟨#[]⟩) := cell_of_row w4 b 0 _ _ _ hblk4
          have f0 : w4.frozen? ⟨b, 0, none⟩ = false := frozen_block hblk4 0
          have HBL := Lib.hid hblk4
          have HP4 := Lib.hid hp4
          clear c2 hrun hblk4 hp4 hblk3
          go_upto_region 12 with (fail)
          have hk5 := Keeps.one w4 b 0 (.string (⟨#[]⟩ ++ s))
          have hblk5 := setCell_block (o := 0) HBL.out (.string (⟨#[]⟩ ++ s))
          generalize w4.setCell ⟨b, 0, none⟩ (.string (⟨#[]⟩ ++ s)) = w5 at hk5 hblk5 ⊢
          have hp5 := hk5.grownTo HP4.out (fun e => by omega)
          have c1 : w5.cell? ⟨p, 1, none⟩ = some (.int .i64 d.used) := cell_of_row w5 p 1 _ _ _ hp5
          have f1 : w5.frozen? ⟨p, 1, none⟩ = false := frozen_block hp5 1
          have HB5 := Lib.hid hblk5
          have HP5 := Lib.hid hp5
          have HK5 := Lib.hid hk5
          clear hblk5 hp5 hk5 b0 f0 HBL HP4
          go_wp2_with fail
          go_ret
          have hk6 := Keeps.one w5 p 1 (.int .i64 (d.used + (s.size : Int)))
          have hblk6 := hk6.grownTo HB5.out (fun e => by omega)
          have hp6 := setCell_block (o := 1) HP5.out (.int .i64 (d.used + (s.size : Int)))
          generalize w5.setCell ⟨p, 1, none⟩ (.int .i64 (d.used + (s.size : Int))) = w6 at hk6 hblk6 hp6 ⊢
          have hmap6 := (HM4.out.keep HK5.out (show ¬ bm = b by omega)).keep hk6 (fun e => H2.out.p_ne e.symm)
          have hk : Keeps (fun k => k = bm ∨ k = p) w2 w6 := (((HK3.out.mono fun _ _ h => h.elim).andThen HK4.out (fun _ _ e => .inl e)).andThen HK5.out (fun i hi e => by omega)).andThen hk6 (fun _ _ e => .inr e)
          have he : (⟨#[]⟩ ++ s : ByteArray) = s := ByteArray.empty_append
          rw [he] at hblk6
          have hr := H2.out.toDskR.ins (b := b) (f := ⟨x, s, 0⟩) (Nat.le_of_eq hb) hk hmap6 hblk6 hp6
          have : d.app x s = (0, d.put x s) := by unfold Dk.app; rw [if_neg (by rw [hn]; decide), HF.out]; show (if _ then _ else _) = _; rw [if_neg h40, if_neg (by omega)]
          rw [this]
          have hu : d.used + (s.size : Int) = (d.put x s).used := by
            show (total d.L : Int) + _ = (total (d.L ++ [⟨x, s, 0⟩]) : Int)
            rw [total_append]
            show _ = ((total d.L + (s.size + 0) : Nat) : Int)
            omega
          rw [hu] at hr
          have hsz2 := HB2.out.size
          refine ⟨rfl, (Keeps.of_fresh HB2.out F).andThen hk (fun k _ e => by rcases e with rfl | rfl; exact H.out.fm; exact H.out.fp), bm, _, hr.mono (fun k e => e.imp id fun e => ⟨by omega, e.2⟩) (fun k e => e.elim (fun e => Nat.lt_of_lt_of_le (H2.out.lt k e) hk.size) fun e => e.2), H.out.ok.ins Hx.out (by omega) (by omega)⟩
  | some f =>
    obtain ⟨hfL, rfl⟩ := find_some hf
    have HF := Lib.hid hf
    obtain ⟨b, hb⟩ := H.out.row hfL
    have hl := H.out.lookY hb hxm
    have hfb : f.bytes.size ≤ 1073741824 := by have := total_mem hfL; unfold Dk.used at hu1; omega
    clear hf
    go_enter Tryz.func23, Tryz.ntmps23
    go_wp2_with fail
    refine (name_any w HT.out f.name Hn.out).mono ?_
    rintro e w1 ⟨rfl, hB1⟩
    have H1 := Lib.hid (H.out.keep (Keeps.of_fresh hB1 fun _ => False) (fun _ _ => id))
    have c0 := H1.out.c0
    have c1 := H1.out.c1
    have HB1 := Lib.hid hB1
    clear hB1
    cases hn : nameB f.name
    · go_wp2_with fail
      go_ret
      have : d.app f.name s = (1, d) := by unfold Dk.app; rw [if_pos hn]
      rw [this]
      exact ⟨rfl, Keeps.of_fresh HB1.out F, HS.out _ HB1.out⟩
    · by_cases hfull : d.room - d.used < s.size
      · have d8 : decide (d.room - d.used < (s.size : Int)) = true := by simp; omega
        go_wp2_with fail
        go_quiet (fail)
        go_wp2_with fail
        go_ret
        have hB2 : Below w.heap.size w (w1.drewN nq) := HB1.out.trans ⟨rfl, rfl, rfl, Nat.le_refl _, fun _ _ => rfl⟩
        have : d.app f.name s = (8, d) := by unfold Dk.app; rw [if_neg (by rw [hn]; decide), HF.out]; show (if _ then _ else _) = _; rw [if_pos hfull]
        rw [this]
        exact ⟨rfl, Keeps.of_fresh hB2 F, HS.out _ hB2⟩
      · have d8 : decide (d.room - d.used < (s.size : Int)) = false := by simp; omega
        go_wp2_with fail
        go_quiet (fail)
        have hB2 : Below w.heap.size w (w1.drewN nq) := HB1.out.trans ⟨rfl, rfl, rfl, Nat.le_refl _, fun _ _ => rfl⟩
        generalize w1.drewN nq = w2 at hB2 ⊢
        have h2 := H.out.keep (Keeps.of_fresh hB2 fun _ => False) (fun _ _ => id)
        have b0 : w2.cell? ⟨b, 0, none⟩ = some (.string f.bytes) := cell_of_row w2 b 0 _ _ _ (h2.rows _ hb)
        have f0 : w2.frozen? ⟨b, 0, none⟩ = false := frozen_block (h2.rows _ hb) 0
        have HB2 := Lib.hid hB2
        have H2 := Lib.hid h2
        have hpb : b ≠ p := h2.p_row hb
        clear c0 c1 H1 HB1 hl h2 hB2
        go_upto_region 12 with (fail)
        have hk5 := Keeps.one w2 b 0 (.string (f.bytes ++ s))
        have hblk5 := setCell_block (o := 0) (H2.out.rows _ hb) (.string (f.bytes ++ s))
        generalize w2.setCell ⟨b, 0, none⟩ (.string (f.bytes ++ s)) = w5 at hk5 hblk5 ⊢
        have hp5 := hk5.grownTo H2.out.blk (fun e => hpb e.symm)
        have c1 : w5.cell? ⟨p, 1, none⟩ = some (.int .i64 d.used) := cell_of_row w5 p 1 _ _ _ hp5
        have f1 : w5.frozen? ⟨p, 1, none⟩ = false := frozen_block hp5 1
        have HB5 := Lib.hid hblk5
        have HP5 := Lib.hid hp5
        have HK5 := Lib.hid hk5
        clear hblk5 hp5 hk5 b0 f0
        go_wp2_with fail
        go_ret
        have hk6 := Keeps.one w5 p 1 (.int .i64 (d.used + (s.size : Int)))
        have hblk6 := hk6.grownTo HB5.out hpb
        have hp6 := setCell_block (o := 1) HP5.out (.int .i64 (d.used + (s.size : Int)))
        generalize w5.setCell ⟨p, 1, none⟩ (.int .i64 (d.used + (s.size : Int))) = w6 at hk6 hblk6 hp6 ⊢
        have hk : Keeps (fun k => k = b ∨ k = p) w2 w6 := (HK5.out.mono fun _ _ e => .inl e).andThen hk6 (fun _ _ e => .inr e)
        have hr := H2.out.toDskR.upd hb (g := growF s) (fun _ => rfl) hk hblk6 hp6
        have : d.app f.name s = (0, d.grow f.name s) := by unfold Dk.app; rw [if_neg (by rw [hn]; decide), HF.out]; show (if _ then _ else _) = _; rw [if_neg (by omega)]
        rw [this]
        have ht := total_grow s d.L f H.out.nodup hfL
        have hu : d.used + (s.size : Int) = (d.grow f.name s).used := by
          show (total d.L : Int) + _ = (total (updL f.name (growF s) d.L) : Int)
          rw [ht]
          omega
        rw [hu] at hr
        have hsz2 := HB2.out.size
        have hsy := H.out.ok.syn f hfL
        refine ⟨rfl, (Keeps.of_fresh HB2.out F).andThen hk (fun k _ e => by rcases e with rfl | rfl; exact H.out.fr _ hb; exact H.out.fp), bm, _, hr.mono (fun k e => .inl e) (fun k e => e.elim (fun e => Nat.lt_of_lt_of_le (H2.out.lt k e) hk.size) fun e => e.2),
          H.out.ok.upd H.out.nodup hfL (fun _ => rfl) ⟨hsy.1, by show f.syn ≤ ((f.bytes ++ s).size : Int); rw [ByteArray.size_append]; omega⟩ (by rw [ht]; unfold Dk.used at hfull; omega)⟩
end Go.Proofs.YthdehdlbocgfaaaGreatDoor
