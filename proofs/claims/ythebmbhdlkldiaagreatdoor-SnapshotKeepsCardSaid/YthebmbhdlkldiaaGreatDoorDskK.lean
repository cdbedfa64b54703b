/- What acts make of a disk, in plain words. Under the stated premises. -/
import Derived.Test.YthebmbhdlkldiaaGreatDoorDskA
import Derived.Test.YthebmbhdlkldiaaGreatDoorLay
import Derived.Test.YthebmbhdlkldiaaGreatDoorBlD
import Derived.Test.YthebmbhdlkldiaaGreatDoorTxtA
import Derived.Deep.CutBlock
import Derived.Deep.DeepCutAuto
import Derived.Test.YthebmbhdlkldiaaGreatDoorBlP
import Derived.Maps.RangeWalk
import Derived.Test.YthebmbhdlkldiaaGreatDoorBlB
import Derived.BigRegion
import Derived.Test.YthebmbhdlkldiaaGreatDoorRecA
import Derived.Test.YthebmbhdlkldiaaGreatDoorBlL
/- The disk: Sync, Delete. Under the stated premises on sizes. -/
namespace Go.Proofs.YthebmbhdlkldiaaGreatDoor.Dsk
open Go.RowKit Go.Bl
attribute [local go_sem ↓] Go.wp_at_zero Go.wp_at_succ

theorem total_upd (x : ByteArray) (g : Fl → Fl) (hg : ∀ f, (g f).bytes = f.bytes) (L : List Fl) : total (updL x g L) = total L := by
  unfold total updL
  rw [List.map_map]
  congr 1
  refine List.map_congr_left fun f _ => ?_
  show (if f.name = x then g f else f).bytes.size = f.bytes.size
  split
  · rw [hg]
  · rfl
theorem filter_all {L : List Fl} {x : ByteArray} (h : ∀ f ∈ L, f.name ≠ x) : L.filter (fun f => decide (f.name ≠ x)) = L := by
  rw [List.filter_eq_self]
  intro f hf
  simpa using h f hf
theorem total_del {L : List Fl} (hn : (L.map Fl.name).Nodup) {f : Fl} (hf : f ∈ L) : total (L.filter fun q => decide (q.name ≠ f.name)) + f.bytes.size = total L := by
  induction L with
  | nil => cases hf
  | cons g L ih =>
    rw [List.map_cons, List.nodup_cons] at hn
    rcases List.mem_cons.1 hf with rfl | hf
    · rw [List.filter_cons_of_neg (by simp), filter_all (fun q hq e => hn.1 (List.mem_map.2 ⟨q, hq, e⟩))]
      show _ = ((f :: L).map _).sum
      rw [List.map_cons, List.sum_cons]
      unfold total
      omega
    · have hne : g.name ≠ f.name := fun e => hn.1 (List.mem_map.2 ⟨f, hf, e.symm⟩)
      rw [List.filter_cons_of_pos (by simpa using hne)]
      have h1 := ih hn.2 hf
      show ((g :: _).map _).sum + _ = ((g :: L).map _).sum
      rw [List.map_cons, List.map_cons, List.sum_cons, List.sum_cons]
      unfold total at h1
      omega
def Dk.del (d : Dk) (x : ByteArray) : Dk := ⟨d.room, d.L.filter fun f => decide (f.name ≠ x)⟩
theorem Dk.Ok.del {d : Dk} (h : d.Ok) (hn : (d.L.map Fl.name).Nodup) (x : ByteArray) : (d.del x).Ok := by
  have hle : total (d.del x).L ≤ total d.L := by
    by_cases hx : ∃ f ∈ d.L, f.name = x
    · obtain ⟨f, hf, rfl⟩ := hx
      have := total_del hn hf
      show total (d.L.filter _) ≤ _
      omega
    · show total (d.L.filter _) ≤ _
      rw [filter_all (fun f hf e => hx ⟨f, hf, e⟩)]
      exact Nat.le_refl _
  refine ⟨h.room1, h.room2, by show (total (d.del x).L : Int) ≤ d.room; have := h.used; omega, Nat.le_trans (List.length_filter_le _ _) h.len, fun f hf => h.syn f (List.mem_filter.1 hf).1, fun f hf => h.nms f (List.mem_filter.1 hf).1⟩
theorem rowsD_del (R : List (Nat × Fl)) (x : ByteArray) : (rowsD R).filter (fun r => decide (r.1 ≠ x)) = rowsD (R.filter fun r => decide (r.2.name ≠ x)) := by
  simp only [rowsD, List.filter_map]; rfl

def syncF (f : Fl) : Fl := { f with syn := f.bytes.size }
def Dk.sync (d : Dk) (x : ByteArray) : Dk := ⟨d.room, updL x syncF d.L⟩
set_option maxHeartbeats 400000 in
theorem sync_no (w : World) (p : Nat) (d : Dk) (F : Nat → Prop) (h : DskAt w p d F) (x : ByteArray) (hx : x.size ≤ maxLen) (hf : d.find x = none) : Calls Tryz.prog 71 #[.pointer (some ⟨p, 0, none⟩), .string x] w fun e w' => e = .returned (.int .i64 6) ∧ w = w' := by
  obtain ⟨bm, R, h⟩ := h
  have c2 := h.c2
  have hl := h.lookN hx (find_none.1 hf)
  clear h hf
  go_enter Tryz.func71, Tryz.ntmps71
  go_wp2
  go_ret
  exact ⟨rfl, rfl⟩
set_option maxHeartbeats 400000 in
theorem sync_yes (w : World) (p : Nat) (d : Dk) (F : Nat → Prop) (h : DskAt w p d F) (f : Fl) (hf : f ∈ d.L) (hx : f.name.size ≤ maxLen) : Calls Tryz.prog 71 #[.pointer (some ⟨p, 0, none⟩), .string f.name] w fun e w' => e = .returned (.int .i64 0) ∧ Keeps F w w' ∧ DskAt w' p (d.sync f.name) F := by
  obtain ⟨bm, R, h⟩ := h
  have c2 := h.c2
  obtain ⟨b, hb⟩ := h.row hf
  have hl := h.lookY hb hx
  have b0 : w.cell? ⟨b, 0, none⟩ = some (.string f.bytes) := cell_of_row w b 0 _ _ _ (h.rows _ hb)
  have b1 : w.cell? ⟨b, 1, none⟩ = some (.int .i64 f.syn) := cell_of_row w b 1 _ _ _ (h.rows _ hb)
  have f1 : w.frozen? ⟨b, 1, none⟩ = false := frozen_block (h.rows _ hb) 1
  have H := Lib.hid h
  clear h
  go_enter Tryz.func71, Tryz.ntmps71
  go_wp2
  go_ret
  have hk : Keeps (fun k => k = b) w (w.setCell ⟨b, 1, none⟩ (.int .i64 f.bytes.size)) := Keeps.one w b 1 _
  have ht := total_upd f.name syncF (fun _ => rfl) d.L
  have hu : d.used = (d.sync f.name).used := by show (total d.L : Int) = (total (updL f.name syncF d.L) : Int); rw [ht]
  refine ⟨rfl, hk.mono (fun k _ e => e ▸ H.out.fr _ hb), bm, _, H.out.toDskR.upd hb (g := syncF) (fun _ => rfl) (hk.mono fun k _ e => .inl e) (setCell_block (o := 1) (H.out.rows _ hb) _) (by rw [← hu]; exact hk.grownTo H.out.blk (fun e => H.out.p_row hb e.symm)),
    H.out.ok.upd H.out.nodup hf (fun _ => rfl) ⟨by show (0 : Int) ≤ (f.bytes.size : Int); omega, Int.le_refl _⟩ (by rw [ht]; exact H.out.ok.used)⟩

set_option maxHeartbeats 400000 in
theorem delete_no (w : World) (p : Nat) (d : Dk) (F : Nat → Prop) (h : DskAt w p d F) (x : ByteArray) (hx : x.size ≤ maxLen) (hf : d.find x = none) : Calls Tryz.prog 70 #[.pointer (some ⟨p, 0, none⟩), .string x] w fun e w' => e = .returned (.int .i64 6) ∧ w = w' := by
  obtain ⟨bm, R, h⟩ := h
  have c2 := h.c2
  have hl := h.lookN hx (find_none.1 hf)
  clear h hf
  go_enter Tryz.func70, Tryz.ntmps70
  go_wp2
  go_ret
  exact ⟨rfl, rfl⟩
set_option maxHeartbeats 1000000 in
theorem delete_in (w : World) (p : Nat) (d : Dk) (F : Nat → Prop) (bm : Nat) (R : List (Nat × Fl)) (h : DskIn w p d F bm R) (f : Fl) (hf : f ∈ d.L) (hx : f.name.size ≤ maxLen) : Calls Tryz.prog 70 #[.pointer (some ⟨p, 0, none⟩), .string f.name] w fun e w' => e = .returned (.int .i64 0) ∧ Keeps (fun k => k = p ∨ k = bm) w w' ∧ DskIn w' p (d.del f.name) F bm (R.filter fun r => decide (r.2.name ≠ f.name)) := by
  have c1 := h.c1
  have c2 := h.c2
  have hp := h.lt p h.fp
  obtain ⟨b, hb⟩ := h.row hf
  have hl := h.lookY hb hx
  have b0 : w.cell? ⟨b, 0, none⟩ = some (.string f.bytes) := cell_of_row w b 0 _ _ _ (h.rows _ hb)
  have f1 : w.frozen? ⟨p, 1, none⟩ = false := frozen_block h.blk 1
  have htot := total_del h.nodup hf
  have hu : IntKind.i64.wrap (d.used - (f.bytes.size : Int)) = (d.del f.name).used := by
    rw [IntWalk.i64_in _ (by unfold Dk.used; have := h.ok.used; have := h.ok.room2; omega)]
    show (total d.L : Int) - _ = (total (d.L.filter _) : Int)
    omega
  have hk1 : Keeps (fun k => k = p) w (w.setCell ⟨p, 1, none⟩ (.int .i64 (d.del f.name).used)).drew := (Keeps.one w p 1 _).drew
  have hblk : (w.setCell ⟨p, 1, none⟩ (.int .i64 (d.del f.name).used)).drew.heap[p]? = _ := setCell_block (o := 1) h.blk (.int .i64 (d.del f.name).used)
  have H := Lib.hid h
  have HK := Lib.hid hk1
  have HB := Lib.hid hblk
  clear h htot hk1 hblk
  go_enter Tryz.func70, Tryz.ntmps70
  go_wp2_with fail
  go_region
  have hk1 := HK.out
  have hblk := HB.out
  clear HK HB
  generalize (w.setCell ⟨p, 1, none⟩ (.int .i64 (d.del f.name).used)).drew = w1 at hk1 hblk ⊢
  have hmap := H.out.map.keep hk1 (fun e => H.out.p_ne e.symm)
  obtain ⟨w2, hrun, hmap2, hgr, hsz, hdr⟩ := hmap.delete lawS strLit_inj Tryz.underlying127 (x := f.name) (keyS hx) 0
  have c2' : w1.cell? ⟨p, 2, none⟩ = some (.map (some bm)) := cell_of_row _ p 2 _ _ _ hblk
  have HB := Lib.hid hblk
  have HM := Lib.hid hmap2
  have HG := Lib.hid (Keeps.of_grown hgr)
  have HK := Lib.hid hk1
  clear hblk hmap hmap2 hgr hsz hdr hk1
  go_wp2_with fail
  go_ret
  have h := H.out
  have hk : Keeps (fun k => k = p ∨ k = bm) w w2 := (HK.out.mono fun _ _ e => .inl e).andThen HG.out (fun k _ e => .inr (by simpa using e.symm))
  have hm := HM.out
  rw [rowsD_del] at hm
  refine ⟨rfl, hk, ?_⟩
  refine ⟨⟨HG.out.grownTo HB.out (fun e => h.p_ne (by simpa using e.symm)), ?_, hm, fun r hr => hk.grownTo (h.rows r (List.mem_filter.1 hr).1) (fun e => ?_), h.dist.sublist (List.Sublist.cons_cons _ (List.Sublist.map _ List.filter_sublist)), h.fp, h.fm,
    fun r hr => h.fr r (List.mem_filter.1 hr).1, fun k hF => Nat.lt_of_lt_of_le (h.lt k hF) hk.size⟩, h.ok.del h.nodup _⟩
  · show _ = d.L.filter _
    rw [← h.rL, List.filter_map]
    rfl
  · rcases e with e | e
    · exact h.p_row (List.mem_filter.1 hr).1 e
    · exact h.r_ne (List.mem_filter.1 hr).1 e
theorem delete_yes (w : World) (p : Nat) (d : Dk) (F : Nat → Prop) (h : DskAt w p d F) (f : Fl) (hf : f ∈ d.L) (hx : f.name.size ≤ maxLen) : Calls Tryz.prog 70 #[.pointer (some ⟨p, 0, none⟩), .string f.name] w fun e w' => e = .returned (.int .i64 0) ∧ Keeps F w w' ∧ DskAt w' p (d.del f.name) F := by
  obtain ⟨bm, R, h⟩ := h
  exact (delete_in w p d F bm R h f hf hx).mono fun _ _ ⟨a, b, c⟩ => ⟨a, b.mono (fun k _ e => by rcases e with rfl | rfl; exact h.fp; exact h.fm), bm, _, c⟩
theorem del_none {d : Dk} {x : ByteArray} (h : d.find x = none) : d.del x = d := by
  unfold Dk.del
  rw [filter_all (find_none.1 h)]
/-- Delete, at whatever name: the error and the disk. -/
theorem delete_any (w : World) (p : Nat) (d : Dk) (F : Nat → Prop) (bm : Nat) (R : List (Nat × Fl)) (h : DskIn w p d F bm R) (x : ByteArray) (hx : x.size ≤ maxLen) : Calls Tryz.prog 70 #[.pointer (some ⟨p, 0, none⟩), .string x] w fun e w' => e = .returned (.int .i64 (if d.find x = none then 6 else 0)) ∧ Keeps (fun k => k = p ∨ k = bm) w w' ∧ DskIn w' p (d.del x) F bm (R.filter fun r => decide (r.2.name ≠ x)) := by
  cases hf : d.find x with
  | none =>
    refine (delete_no w p d F ⟨bm, R, h⟩ x hx hf).mono ?_
    rintro e w' ⟨rfl, rfl⟩
    have : (R.filter fun r => decide (r.2.name ≠ x)) = R := List.filter_eq_self.2 fun r hr => by simpa using find_none.1 hf r.2 (h.mem hr)
    rw [this, del_none hf]
    exact ⟨rfl, Keeps.refl _ _, h⟩
  | some f =>
    obtain ⟨hfL, rfl⟩ := find_some hf
    exact (delete_in w p d F bm R h f hfL hx).mono fun _ _ ⟨a, b, c⟩ => ⟨a, b, c⟩
end Go.Proofs.YthebmbhdlkldiaaGreatDoor.Dsk

/- The disk: List: the files' names, in rising order of their bytes. -/
namespace Go.Proofs.YthebmbhdlkldiaaGreatDoor.Dsk
open Go.RowKit Go.Bl Go.Maps Go.Sort Go.Shelf

/-- slices.Sort's two contracts at this dump, at the fence that asks nothing. -/
theorem sorts (m : Nat) : AnyZ.SortsIn Tryz.prog Tryz.sorted105_ren Fence.wide m :=
  ⟨fun blk off cap ss W hH hblk hsz => callsIn_wide.2 (AnyM.slices_Sort_string Tryz.sort121 blk off cap ss W hH hblk hsz),
   fun p cap W => callsIn_wide.2 (AnyM.slices_Sort_string_none Tryz.sort121 p cap W)⟩

theorem keys_call (mb : Option Nat) (W : World) : Calls Tryz.prog 114 #[.map mb] W fun e w' => e = .returned (.func (.func 132) #[] #[.pointer (some ⟨W.heap.size, 0, none⟩)]) ∧ w' = W.alloc (.cells #[.map mb] 127) :=
  callsIn_wide.1 (AnyZ.keys_in Tryz.keys114 Fence.wide 5 trivial rfl mb W)

set_option maxHeartbeats 1000000 in
theorem sorted_call {H : Type} (b nn : Nat) (D0 : DataW H) (R : Value → Option (DataW H × List MemPlace)) (w : World) (hown : w.ownsMap Tryz.prog 9 R b nn D0) (hmax : Maps.size D0 ≤ maxLen) (hbytes : Maps.size D0 * 16 ≤ 140737488355328) :
    Calls Tryz.prog 105 #[.func (.func 132) #[] #[.pointer (some ⟨w.heap.size, 0, none⟩)]] (w.alloc (.cells #[.map (some b)] 127)) fun e w' => ∃ (v : Value) (ss : List (List UInt8)), e = .returned v ∧ ss.Perm (strKeys D0) ∧
      w'.ownsRow (w.alloc (.cells #[.map (some b)] 127)).heap.size 9 1 v ss.length ((ss.mergeSort (fun x y => decide (x ≤ y))).map encStr) ∧ (v = .slice none 0 0 ↔ ss = []) ∧ Below (w.alloc (.cells #[.map (some b)] 127)).heap.size (w.alloc (.cells #[.map (some b)] 127)) w' := by
  have hbl := hown.lt
  have hseq : SeqGives Fence.wide 2 Tryz.prog 132 #[.pointer (some ⟨w.heap.size, 0, none⟩)] encStr (fun ss => ss.Perm (strKeys D0)) (Maps.size D0) (w.alloc (.cells #[.map (some b)] 127)) :=
    AnyZ.keys_gives (ρ := Tryz.keys114_ren) { Tryz.keys114 with } Fence.wide _ trivial rfl (by omega) w.heap.size b nn D0 _ (by simp) (by simp) (by
      obtain ⟨es, clock, hb, Ft, hs, hD⟩ := hown
      exact ⟨es, clock, (Below.heap_alloc _ _ b hbl).trans hb, Ft, hs, hD⟩)
  exact callsIn_wide.1 (AnyZ.sorted_in Tryz.sorted105 Fence.wide 5 trivial trivial trivial trivial rfl (by omega) (sorts _) (enters_of Tryz.func121 (by kernel_rfl) rfl) 132 #[.pointer (some ⟨w.heap.size, 0, none⟩)] trivial (enters_of Tryz.func132 (by kernel_rfl) rfl) _ _ hmax hbytes _ hseq)

theorem bLt_irr (a : ByteArray) : ¬ bLt a a := by rw [bLt_iff]; exact List.lt_irrefl _
/-- The files' names, in rising order. -/
def Names (L : List Fl) (ks : List ByteArray) : Prop := Rising ks ∧ ∀ s, s ∈ ks ↔ ∃ f ∈ L, f.name = s
theorem Names.len {L : List Fl} {ks : List ByteArray} (h : Names L ks) (hn : (L.map Fl.name).Nodup) : ks.length = L.length := by
  have h1 : ks.Perm (L.map Fl.name) := (List.perm_ext_iff_of_nodup (show ks.Nodup from List.Pairwise.imp (fun {a b} (hlt : bLt a b) (e : a = b) => bLt_irr a (by rw [← e] at hlt; exact hlt)) h.1) hn).2 fun s => by
    rw [h.2, List.mem_map]
  rw [h1.length_eq, List.length_map]

set_option maxHeartbeats 1000000 in
theorem list_in (w : World) (p : Nat) (room u : Int) (L : List Fl) (F : Nat → Prop) (bm : Nat) (R : List (Nat × Fl)) (h : DskR w p room u L F bm R) (hle : L.length ≤ 40) :
    Calls Tryz.prog 79 #[.pointer (some ⟨p, 0, none⟩)] w fun e w' => ∃ v ks, e = .returned v ∧ Names L ks ∧ Below w.heap.size w w' ∧ Sl w' (fun b => w.heap.size ≤ b) 1 strc v ks := by
  have c2 := h.c2
  have hlen := h.len
  obtain ⟨_, D, hown, hsz, hat, hhas⟩ := h.map
  rw [rowsD_len] at hsz
  have HO := Lib.hid hown
  have HH := Lib.hid hhas
  have H := Lib.hid h
  clear hat hown hhas h
  go_enter Tryz.func79, Tryz.ntmps79
  go_wp2_with fail
  refine (keys_call _ _).mono ?_
  rintro e w1 ⟨rfl, rfl⟩
  go_wp2_with fail
  refine (sorted_call bm _ D Rv w HO.out (by rw [hsz]; unfold maxLen; omega) (by rw [hsz]; omega)).mono ?_
  rintro e w2 ⟨v, ss, rfl, hP, hrow, -, hB⟩
  have HP := Lib.hid hP
  have HR := Lib.hid hrow
  have HB := Lib.hid hB
  clear hP hrow hB
  go_wp2_with fail
  go_ret
  obtain ⟨k1, k2⟩ := keys_sorted lawS Tryz.underlying9 HO.out HP.out
  refine ⟨v, _, rfl, ⟨k1, fun s => ?_⟩, ((Below.refl _ w).alloc (Nat.le_refl _) _).trans (HB.out.mono (by simp)), ?_⟩
  · have hh := HH.out s
    rw [show strLit s = .string s.data.toList from rfl] at hh
    rw [k2, hh]
    constructor
    · intro hg
      obtain ⟨u, hu⟩ := Option.isSome_iff_exists.1 hg
      obtain ⟨r, hr, e⟩ := List.mem_map.1 (getL_mem hu)
      exact ⟨r.2, H.out.mem hr, by injection e⟩
    · rintro ⟨f, hf, rfl⟩
      obtain ⟨b, hb⟩ := H.out.row hf
      rw [getL_of_mem H.out.map.1 (show (f.name, ptr b) ∈ rowsD R from List.mem_map.2 ⟨(b, f), hb, rfl⟩)]
      rfl
  · have := HR.out
    have hlen : ss.length = ((ss.mergeSort leB).map bsOf).length := by simp
    rw [hlen, show (ss.mergeSort (fun x y => decide (x ≤ y))).map encStr = ((ss.mergeSort leB).map bsOf).flatMap strc by rw [List.flatMap_map]; simp [strc, bsOf, ← List.map_eq_flatMap]] at this
    have hs := Sl.of_own (enc := strc) (fun _ => rfl) this
    exact hs.mono fun q hq hv => by have := (this.lt q hv).1; simp at this; omega
theorem list_any (w : World) (p : Nat) (d : Dk) (F : Nat → Prop) (h : DskAt w p d F) :
    Calls Tryz.prog 79 #[.pointer (some ⟨p, 0, none⟩)] w fun e w' => ∃ v ks, e = .returned v ∧ Names d.L ks ∧ Below w.heap.size w w' ∧ Sl w' (fun b => w.heap.size ≤ b) 1 strc v ks := by
  obtain ⟨bm, R, h⟩ := h
  exact list_in w p _ _ _ F bm R h.toDskR h.ok.len
end Go.Proofs.YthebmbhdlkldiaaGreatDoor.Dsk

/- The disk: Append. Under the stated premises on sizes. -/
namespace Go.Proofs.YthebmbhdlkldiaaGreatDoor.Dsk
open Go.RowKit Go.Bl
attribute [local go_sem ↓] Go.wp_at_zero Go.wp_at_succ

def growF (s : ByteArray) (f : Fl) : Fl := { f with bytes := f.bytes ++ s }
def Dk.grow (d : Dk) (x s : ByteArray) : Dk := ⟨d.room, updL x (growF s) d.L⟩
def Dk.put (d : Dk) (x s : ByteArray) : Dk := ⟨d.room, d.L ++ [⟨x, s, 0⟩]⟩
/-- Append: the error and the disk. -/
def Dk.app (d : Dk) (x s : ByteArray) : Int × Dk :=
  if nameB x = false then (1, d)
  else match d.find x with
    | none => if 40 ≤ d.L.length then (4, d) else if d.room - d.used < s.size then (8, d) else (0, d.put x s)
    | some _ => if d.room - d.used < s.size then (8, d) else (0, d.grow x s)
theorem total_append (L M : List Fl) : total (L ++ M) = total L + total M := by simp [total]
theorem total_grow (s : ByteArray) : ∀ (L : List Fl) (f : Fl), (L.map Fl.name).Nodup → f ∈ L → total (updL f.name (growF s) L) = total L + s.size
  | g :: L, f, hn, hf => by
    rw [List.map_cons, List.nodup_cons] at hn
    rcases List.mem_cons.1 hf with rfl | hf
    · have h0 : updL f.name (growF s) L = L := by
        unfold updL
        conv => rhs; rw [← List.map_id L]
        refine List.map_congr_left fun q hq => ?_
        rw [if_neg (fun e => hn.1 (List.mem_map.2 ⟨q, hq, e⟩))]
        rfl
      show total ((if f.name = f.name then growF s f else f) :: updL f.name (growF s) L) = _
      rw [if_pos rfl, h0]
      show ((growF s f :: L).map fun f => f.bytes.size).sum = ((f :: L).map fun f => f.bytes.size).sum + _
      rw [List.map_cons, List.map_cons, List.sum_cons, List.sum_cons]
      show (f.bytes ++ s).size + _ = _
      rw [ByteArray.size_append]
      omega
    · have hne : g.name ≠ f.name := fun e => hn.1 (List.mem_map.2 ⟨f, hf, e.symm⟩)
      show total ((if g.name = f.name then growF s g else g) :: updL f.name (growF s) L) = _
      rw [if_neg hne]
      have := total_grow s L f hn.2 hf
      show ((g :: _).map fun f => f.bytes.size).sum = ((g :: L).map fun f => f.bytes.size).sum + _
      rw [List.map_cons, List.map_cons, List.sum_cons, List.sum_cons]
      unfold total at this
      omega
/-- One file more. -/
theorem DskR.ins {w w' : World} {p : Nat} {room u u' : Int} {L : List Fl} {F : Nat → Prop} {bm : Nat} {R : List (Nat × Fl)} (h : DskR w p room u L F bm R) {b : Nat} {f : Fl} (hbl : w.heap.size ≤ b)
    (hk : Keeps (fun k => k = bm ∨ k = p) w w') (hmap : MapL w' Tryz.prog 9 strLit bm (rowsD R ++ [(f.name, ptr b)])) (hblk : w'.heap[b]? = some (.cells (flc f).toArray 137 (0, 0))) (hp : w'.heap[p]? = some (.cells #[.int .i64 room, .int .i64 u', .map (some bm)] 129 (0, 0))) :
    DskR w' p room u' (L ++ [f]) (fun k => F k ∨ (w.heap.size ≤ k ∧ k < w'.heap.size)) bm (R ++ [(b, f)]) := by
  have hb' := (Array.getElem?_eq_some_iff.1 hblk).1
  refine ⟨hp, by rw [List.map_append, h.rL]; rfl, by unfold rowsD at hmap ⊢; rw [List.map_append]; exact hmap, fun r hr => ?_, ?_, .inl h.fp, .inl h.fm, fun r hr => ?_, fun k hk2 => hk2.elim (fun e => Nat.lt_of_lt_of_le (h.lt k e) hk.size) (fun e => e.2)⟩
  · rcases List.mem_append.1 hr with hr | hr
    · exact hk.grownTo (h.rows r hr) (fun e => e.elim (fun e => h.r_ne hr e) (fun e => h.p_row hr e))
    · obtain rfl := List.mem_singleton.1 hr
      exact hblk
  · rw [List.map_append, ← List.cons_append, List.nodup_append]
    refine ⟨h.dist, by simp, fun a ha c hc => ?_⟩
    simp only [List.map_cons, List.map_nil, List.mem_singleton] at hc
    have : a < w.heap.size := by
      rcases List.mem_cons.1 ha with rfl | ha
      · exact h.lt _ h.fp
      · obtain ⟨r, hr, rfl⟩ := List.mem_map.1 ha
        exact h.lt _ (h.fr r hr)
    omega
  · rcases List.mem_append.1 hr with hr | hr
    · exact .inl (h.fr r hr)
    · obtain rfl := List.mem_singleton.1 hr
      exact .inr ⟨hbl, hb'⟩
theorem Dk.Ok.ins {d : Dk} (h : d.Ok) {x s : ByteArray} (hx : x.size ≤ 1000000) (hl : d.L.length < 40) (hr : ¬ d.room - d.used < s.size) : (d.put x s).Ok := by
  refine ⟨h.room1, h.room2, ?_, by show (d.L ++ _).length ≤ 40; simp; omega, fun f hf => ?_, fun f hf => ?_⟩
  · show (total (d.L ++ [⟨x, s, 0⟩]) : Int) ≤ d.room
    rw [total_append]
    show ((total d.L + (s.size + 0) : Nat) : Int) ≤ _
    unfold Dk.used at hr
    omega
  · rcases List.mem_append.1 hf with hf | hf
    · exact h.syn f hf
    · obtain rfl := List.mem_singleton.1 hf
      exact ⟨Int.le_refl _, by show (0 : Int) ≤ (s.size : Int); omega⟩
  · rcases List.mem_append.1 hf with hf | hf
    · exact h.nms f hf
    · obtain rfl := List.mem_singleton.1 hf
      exact hx

set_option maxHeartbeats 2000000 in
set_option maxRecDepth 8000 in
theorem append_any (w : World) (p : Nat) (d : Dk) (F : Nat → Prop) (h : DskAt w p d F) (hT : Tabs w) (x s : ByteArray) (hx : x.size ≤ 1000000) (hs : s.size ≤ 1000000000000000) :
    Calls Tryz.prog 23 #[.pointer (some ⟨p, 0, none⟩), .string x, .string s] w fun e w' => e = .returned (.int .i64 (d.app x s).1) ∧ Keeps F w w' ∧ DskAt w' p (d.app x s).2 (fun k => F k ∨ (w.heap.size ≤ k ∧ k < w'.heap.size)) := by
  obtain ⟨bm, R, h⟩ := h
  have c2 := h.c2
  have hu0 : 0 ≤ d.used := by unfold Dk.used; omega
  have hu1 : d.used ≤ d.room := h.ok.used
  have hr2 := h.ok.room2
  have hr1 := h.ok.room1
  have hxm : x.size ≤ maxLen := by unfold maxLen; omega
  have HT := Lib.hid hT
  have H := Lib.hid h
  have hsame : ∀ w', Below w.heap.size w w' → DskAt w' p d (fun k => F k ∨ (w.heap.size ≤ k ∧ k < w'.heap.size)) := fun w' hB =>
    (DskAt.fresh ⟨bm, R, h⟩ hB).mono (fun k e => .inl e) (fun k e => e.elim (fun e => Nat.lt_of_lt_of_le (h.lt k e) hB.size) (fun e => e.2))
  have HS := Lib.hid hsame
  have Hn : Hid (x.size ≤ 1000000000000000) := Lib.hid (by omega)
  have Hx := Lib.hid hx
  clear hT h hsame hx
  cases hf : d.find x with
  | none =>
    have hl := H.out.lookN hxm (find_none.1 hf)
    have HF := Lib.hid hf
    clear hf
    go_enter Tryz.func23, Tryz.ntmps23
    go_wp2_with fail
    refine (name_any w HT.out x Hn.out).mono ?_
    rintro e w1 ⟨rfl, hB1⟩
    have H1 := Lib.hid (H.out.keep (Keeps.of_fresh hB1 fun _ => False) (fun _ _ => id))
    have c0 := H1.out.c0
    have c1 := H1.out.c1
    have c2 := H1.out.c2
    have hml := H1.out.maplen
    have HB1 := Lib.hid hB1
    clear hB1
    cases hn : nameB x
    · go_wp2_with fail
      go_ret
      have : d.app x s = (1, d) := by unfold Dk.app; rw [if_pos hn]
      rw [this]
      exact ⟨rfl, Keeps.of_fresh HB1.out F, HS.out _ HB1.out⟩
    · by_cases h40 : 40 ≤ d.L.length
      · have d40 : decide ((40 : Int) ≤ (d.L.length : Int)) = true := by simp; omega
        go_wp2_with fail
        go_ret
        have : d.app x s = (4, d) := by unfold Dk.app; rw [if_neg (by rw [hn]; decide), HF.out]; show (if _ then _ else _) = _; rw [if_pos h40]
        rw [this]
        exact ⟨rfl, Keeps.of_fresh HB1.out F, HS.out _ HB1.out⟩
      · have d40 : decide ((40 : Int) ≤ (d.L.length : Int)) = false := by simp; omega
        by_cases hfull : d.room - d.used < s.size
        · have d8 : decide (d.room - d.used < (s.size : Int)) = true := by simp; omega
          go_wp2_with fail
          go_quiet (fail)
          go_wp2_with fail
          go_ret
          have hB2 : Below w.heap.size w (w1.drewN nq) := HB1.out.trans ⟨rfl, rfl, rfl, Nat.le_refl _, fun _ _ => rfl⟩
          have : d.app x s = (8, d) := by unfold Dk.app; rw [if_neg (by rw [hn]; decide), HF.out]; show (if _ then _ else _) = _; rw [if_neg h40, if_pos hfull]
          rw [this]
          exact ⟨rfl, Keeps.of_fresh hB2 F, HS.out _ hB2⟩
        · have d8 : decide (d.room - d.used < (s.size : Int)) = false := by simp; omega
          have hlen := H1.out.len
          go_wp2_with fail
          go_quiet (fail)
          have hB2 : Below w.heap.size w (w1.drewN nq) := HB1.out.trans ⟨rfl, rfl, rfl, Nat.le_refl _, fun _ _ => rfl⟩
          generalize w1.drewN nq = w2 at hB2 ⊢
          have h2 := H.out.keep (Keeps.of_fresh hB2 fun _ => False) (fun _ _ => id)
          have HB2 := Lib.hid hB2
          clear c0 c1 c2 hml H1 HB1 hl hlen
          go_upto_region 10 with (fail)
          have hblk3 := heap_alloc_new w2 (.cells #[.string ⟨#[]⟩, .int .i64 0] 137)
          have hk3 := (Keeps.refl (fun _ => False) w2).alloc (.cells #[.string ⟨#[]⟩, .int .i64 0] 137)
          generalize w2.alloc (.cells #[.string ⟨#[]⟩, .int .i64 0] 137) = w3 at hblk3 hk3 ⊢
          have h3 := h2.keep hk3 (fun _ _ => id)
          have hbw := h2.lt
          obtain ⟨b, hb⟩ : ∃ b, w2.heap.size = b := ⟨_, rfl⟩
          rw [hb] at hblk3 hbw ⊢
          have c2 := h3.c2
          obtain ⟨w4, hrun, hmap4, hgr4, hsz4, _⟩ := h3.map.store lawS strLit_inj Tryz.underlying127 (by rw [rowsD_len, h3.len]; unfold maxLen; omega) (x := x) (keyS hxm) (getD_none fun r hr e => find_none.1 HF.out r.2 (h3.mem hr) e) (.pointer (some ⟨b, 0, none⟩))
          have hk4 : Keeps (fun k => k = bm) w3 w4 := (Keeps.of_grown hgr4).mono fun _ _ e => by simpa using e.symm
          have hbm := hbw bm h2.fm
          have hblk4 := hk4.grownTo hblk3 (fun e => by omega)
          have hp4 := hk4.grownTo h3.blk h3.p_ne
          have HM4 := Lib.hid hmap4
          have HK4 := Lib.hid hk4
          have HK3 := Lib.hid hk3
          have H3 := Lib.hid h3
          have H2 := Lib.hid h2
          have hpb : p < b := hbw p h2.fp
          clear hmap4 hgr4 hsz4 hk4 hk3 h3 h2 hbw
          go_upto_region 11 with (fail)
          have b0 : w4.cell? ⟨b, 0, none⟩ = some (.string ⟨#[]⟩) := cell_of_row w4 b 0 _ _ _ hblk4
          have f0 : w4.frozen? ⟨b, 0, none⟩ = false := frozen_block hblk4 0
          have HBL := Lib.hid hblk4
          have HP4 := Lib.hid hp4
          clear c2 hrun hblk4 hp4 hblk3
          go_upto_region 12 with (fail)
          have hk5 := Keeps.one w4 b 0 (.string (⟨#[]⟩ ++ s))
          have hblk5 := setCell_block (o := 0) HBL.out (.string (⟨#[]⟩ ++ s))
          generalize w4.setCell ⟨b, 0, none⟩ (.string (⟨#[]⟩ ++ s)) = w5 at hk5 hblk5 ⊢
          have hp5 := hk5.grownTo HP4.out (fun e => by omega)
          have c1 : w5.cell? ⟨p, 1, none⟩ = some (.int .i64 d.used) := cell_of_row w5 p 1 _ _ _ hp5
          have f1 : w5.frozen? ⟨p, 1, none⟩ = false := frozen_block hp5 1
          have HB5 := Lib.hid hblk5
          have HP5 := Lib.hid hp5
          have HK5 := Lib.hid hk5
          clear hblk5 hp5 hk5 b0 f0 HBL HP4
          go_wp2_with fail
          go_ret
          have hk6 := Keeps.one w5 p 1 (.int .i64 (d.used + (s.size : Int)))
          have hblk6 := hk6.grownTo HB5.out (fun e => by omega)
          have hp6 := setCell_block (o := 1) HP5.out (.int .i64 (d.used + (s.size : Int)))
          generalize w5.setCell ⟨p, 1, none⟩ (.int .i64 (d.used + (s.size : Int))) = w6 at hk6 hblk6 hp6 ⊢
          have hmap6 := (HM4.out.keep HK5.out (show ¬ bm = b by omega)).keep hk6 (fun e => H2.out.p_ne e.symm)
          have hk : Keeps (fun k => k = bm ∨ k = p) w2 w6 := (((HK3.out.mono fun _ _ h => h.elim).andThen HK4.out (fun _ _ e => .inl e)).andThen HK5.out (fun i hi e => by omega)).andThen hk6 (fun _ _ e => .inr e)
          have he : (⟨#[]⟩ ++ s : ByteArray) = s := ByteArray.empty_append
          rw [he] at hblk6
          have hr := H2.out.toDskR.ins (b := b) (f := ⟨x, s, 0⟩) (Nat.le_of_eq hb) hk hmap6 hblk6 hp6
          have : d.app x s = (0, d.put x s) := by unfold Dk.app; rw [if_neg (by rw [hn]; decide), HF.out]; show (if _ then _ else _) = _; rw [if_neg h40, if_neg (by omega)]
          rw [this]
          have hu : d.used + (s.size : Int) = (d.put x s).used := by
            show (total d.L : Int) + _ = (total (d.L ++ [⟨x, s, 0⟩]) : Int)
            rw [total_append]
            show _ = ((total d.L + (s.size + 0) : Nat) : Int)
            omega
          rw [hu] at hr
          have hsz2 := HB2.out.size
          refine ⟨rfl, (Keeps.of_fresh HB2.out F).andThen hk (fun k _ e => by rcases e with rfl | rfl; exact H.out.fm; exact H.out.fp), bm, _, hr.mono (fun k e => e.imp id fun e => ⟨by omega, e.2⟩) (fun k e => e.elim (fun e => Nat.lt_of_lt_of_le (H2.out.lt k e) hk.size) fun e => e.2), H.out.ok.ins Hx.out (by omega) (by omega)⟩
  | some f =>
    obtain ⟨hfL, rfl⟩ := find_some hf
    have HF := Lib.hid hf
    obtain ⟨b, hb⟩ := H.out.row hfL
    have hl := H.out.lookY hb hxm
    have hfb : f.bytes.size ≤ 1073741824 := by have := total_mem hfL; unfold Dk.used at hu1; omega
    clear hf
    go_enter Tryz.func23, Tryz.ntmps23
    go_wp2_with fail
    refine (name_any w HT.out f.name Hn.out).mono ?_
    rintro e w1 ⟨rfl, hB1⟩
    have H1 := Lib.hid (H.out.keep (Keeps.of_fresh hB1 fun _ => False) (fun _ _ => id))
    have c0 := H1.out.c0
    have c1 := H1.out.c1
    have HB1 := Lib.hid hB1
    clear hB1
    cases hn : nameB f.name
    · go_wp2_with fail
      go_ret
      have : d.app f.name s = (1, d) := by unfold Dk.app; rw [if_pos hn]
      rw [this]
      exact ⟨rfl, Keeps.of_fresh HB1.out F, HS.out _ HB1.out⟩
    · by_cases hfull : d.room - d.used < s.size
      · have d8 : decide (d.room - d.used < (s.size : Int)) = true := by simp; omega
        go_wp2_with fail
        go_quiet (fail)
        go_wp2_with fail
        go_ret
        have hB2 : Below w.heap.size w (w1.drewN nq) := HB1.out.trans ⟨rfl, rfl, rfl, Nat.le_refl _, fun _ _ => rfl⟩
        have : d.app f.name s = (8, d) := by unfold Dk.app; rw [if_neg (by rw [hn]; decide), HF.out]; show (if _ then _ else _) = _; rw [if_pos hfull]
        rw [this]
        exact ⟨rfl, Keeps.of_fresh hB2 F, HS.out _ hB2⟩
      · have d8 : decide (d.room - d.used < (s.size : Int)) = false := by simp; omega
        go_wp2_with fail
        go_quiet (fail)
        have hB2 : Below w.heap.size w (w1.drewN nq) := HB1.out.trans ⟨rfl, rfl, rfl, Nat.le_refl _, fun _ _ => rfl⟩
        generalize w1.drewN nq = w2 at hB2 ⊢
        have h2 := H.out.keep (Keeps.of_fresh hB2 fun _ => False) (fun _ _ => id)
        have b0 : w2.cell? ⟨b, 0, none⟩ = some (.string f.bytes) := cell_of_row w2 b 0 _ _ _ (h2.rows _ hb)
        have f0 : w2.frozen? ⟨b, 0, none⟩ = false := frozen_block (h2.rows _ hb) 0
        have HB2 := Lib.hid hB2
        have H2 := Lib.hid h2
        have hpb : b ≠ p := h2.p_row hb
        clear c0 c1 H1 HB1 hl h2 hB2
        go_upto_region 12 with (fail)
        have hk5 := Keeps.one w2 b 0 (.string (f.bytes ++ s))
        have hblk5 := setCell_block (o := 0) (H2.out.rows _ hb) (.string (f.bytes ++ s))
        generalize w2.setCell ⟨b, 0, none⟩ (.string (f.bytes ++ s)) = w5 at hk5 hblk5 ⊢
        have hp5 := hk5.grownTo H2.out.blk (fun e => hpb e.symm)
        have c1 : w5.cell? ⟨p, 1, none⟩ = some (.int .i64 d.used) := cell_of_row w5 p 1 _ _ _ hp5
        have f1 : w5.frozen? ⟨p, 1, none⟩ = false := frozen_block hp5 1
        have HB5 := Lib.hid hblk5
        have HP5 := Lib.hid hp5
        have HK5 := Lib.hid hk5
        clear hblk5 hp5 hk5 b0 f0
        go_wp2_with fail
        go_ret
        have hk6 := Keeps.one w5 p 1 (.int .i64 (d.used + (s.size : Int)))
        have hblk6 := hk6.grownTo HB5.out hpb
        have hp6 := setCell_block (o := 1) HP5.out (.int .i64 (d.used + (s.size : Int)))
        generalize w5.setCell ⟨p, 1, none⟩ (.int .i64 (d.used + (s.size : Int))) = w6 at hk6 hblk6 hp6 ⊢
        have hk : Keeps (fun k => k = b ∨ k = p) w2 w6 := (HK5.out.mono fun _ _ e => .inl e).andThen hk6 (fun _ _ e => .inr e)
        have hr := H2.out.toDskR.upd hb (g := growF s) (fun _ => rfl) hk hblk6 hp6
        have : d.app f.name s = (0, d.grow f.name s) := by unfold Dk.app; rw [if_neg (by rw [hn]; decide), HF.out]; show (if _ then _ else _) = _; rw [if_neg (by omega)]
        rw [this]
        have ht := total_grow s d.L f H.out.nodup hfL
        have hu : d.used + (s.size : Int) = (d.grow f.name s).used := by
          show (total d.L : Int) + _ = (total (updL f.name (growF s) d.L) : Int)
          rw [ht]
          omega
        rw [hu] at hr
        have hsz2 := HB2.out.size
        have hsy := H.out.ok.syn f hfL
        refine ⟨rfl, (Keeps.of_fresh HB2.out F).andThen hk (fun k _ e => by rcases e with rfl | rfl; exact H.out.fr _ hb; exact H.out.fp), bm, _, hr.mono (fun k e => .inl e) (fun k e => e.elim (fun e => Nat.lt_of_lt_of_le (H2.out.lt k e) hk.size) fun e => e.2),
          H.out.ok.upd H.out.nodup hfL (fun _ => rfl) ⟨hsy.1, by show f.syn ≤ ((f.bytes ++ s).size : Int); rw [ByteArray.size_append]; omega⟩ (by rw [ht]; unfold Dk.used at hfull; omega)⟩
end Go.Proofs.YthebmbhdlkldiaaGreatDoor.Dsk

/- The disk: Rename. Under the stated premises on sizes. -/
namespace Go.Proofs.YthebmbhdlkldiaaGreatDoor.Dsk
open Go.RowKit Go.Bl
attribute [local go_sem ↓] Go.wp_at_zero Go.wp_at_succ

theorem eqS_true {a b : ByteArray} (h : a = b) : (a.toList == b.toList) = true := by subst h; simp
theorem bytes_ext {a b : ByteArray} (h : a.toList = b.toList) : a = b := by
  rw [ByteArray.toList_eq, ByteArray.toList_eq] at h
  obtain ⟨⟨x⟩⟩ := a
  obtain ⟨⟨y⟩⟩ := b
  simpa using h
theorem eqS_false {a b : ByteArray} (h : a ≠ b) : (a.toList == b.toList) = false := by
  rw [beq_eq_false_iff_ne]; intro e; exact h (bytes_ext e)

def Dk.move (d : Dk) (f : Fl) (y : ByteArray) : Dk := ⟨d.room, ((d.del y).del f.name).L ++ [{ f with name := y }]⟩
/-- Rename: the error and the disk. -/
def Dk.ren (d : Dk) (x y : ByteArray) : Int × Dk :=
  match d.find x with
  | none => (6, d)
  | some f => if nameB y = false then (1, d) else if x = y then (0, d) else (0, d.move f y)

set_option maxRecDepth 8000 in
set_option maxHeartbeats 2000000 in
theorem rename_any (w : World) (p : Nat) (d : Dk) (F : Nat → Prop) (h : DskAt w p d F) (hT : Tabs w) (x y : ByteArray) (hx : x.size ≤ 1000000) (hy : y.size ≤ 1000000) :
    Calls Tryz.prog 72 #[.pointer (some ⟨p, 0, none⟩), .string x, .string y] w fun e w' => e = .returned (.int .i64 (d.ren x y).1) ∧ Keeps F w w' ∧ DskAt w' p (d.ren x y).2 (fun k => F k ∨ (w.heap.size ≤ k ∧ k < w'.heap.size)) := by
  obtain ⟨bm, R, h⟩ := h
  have c2 := h.c2
  have hxm : x.size ≤ maxLen := by unfold maxLen; omega
  have hym : y.size ≤ maxLen := by unfold maxLen; omega
  have HT := Lib.hid hT
  have H := Lib.hid h
  have hsame : ∀ w', Below w.heap.size w w' → DskAt w' p d (fun k => F k ∨ (w.heap.size ≤ k ∧ k < w'.heap.size)) := fun w' hB =>
    (DskAt.fresh ⟨bm, R, h⟩ hB).mono (fun k e => .inl e) (fun k e => e.elim (fun e => Nat.lt_of_lt_of_le (h.lt k e) hB.size) (fun e => e.2))
  have HS := Lib.hid hsame
  have Hn : Hid (y.size ≤ 1000000000000000) := Lib.hid (by omega)
  have Hy := Lib.hid hy
  clear hT h hsame hx hy
  cases hf : d.find x with
  | none =>
    have hl := H.out.lookN hxm (find_none.1 hf)
    have HF := Lib.hid hf
    clear hf
    go_enter Tryz.func72, Tryz.ntmps72
    go_wp2_with fail
    go_ret
    have : d.ren x y = (6, d) := by unfold Dk.ren; rw [HF.out]
    rw [this]
    exact ⟨rfl, Keeps.refl _ _, HS.out _ (Below.refl _ _)⟩
  | some f =>
    obtain ⟨hfL, rfl⟩ := find_some hf
    obtain ⟨b, hb⟩ := H.out.row hfL
    have hl := H.out.lookY hb hxm
    have Hb := Lib.hid hb
    have HF := Lib.hid hf
    clear hf hb
    go_enter Tryz.func72, Tryz.ntmps72
    go_wp2_with fail
    refine (name_any w HT.out y Hn.out).mono ?_
    rintro e w1 ⟨rfl, hB1⟩
    have HB1 := Lib.hid hB1
    clear hB1
    cases hn : nameB y
    · go_wp2_with fail
      go_ret
      have : d.ren f.name y = (1, d) := by unfold Dk.ren; rw [HF.out]; show (if _ then _ else _) = _; rw [if_pos hn]
      rw [this]
      exact ⟨rfl, Keeps.of_fresh HB1.out F, HS.out _ HB1.out⟩
    · by_cases hxy : f.name = y
      · have de := eqS_true hxy
        go_wp2_with fail
        go_ret
        have : d.ren f.name y = (0, d) := by unfold Dk.ren; rw [HF.out]; show (if _ then _ else _) = _; rw [if_neg (by rw [hn]; decide), if_pos hxy]
        rw [this]
        exact ⟨rfl, Keeps.of_fresh HB1.out F, HS.out _ HB1.out⟩
      · have de := eqS_false hxy
        have h1 := H.out.keep (Keeps.of_fresh HB1.out fun _ => False) (fun _ _ => id)
        have H1 := Lib.hid h1
        have Hxy := Lib.hid hxy
        clear hl c2 h1 hxy
        go_wp2_with fail
        refine (delete_any w1 p d F bm R H1.out y hym).mono ?_
        rintro e w2 ⟨he, hk2, h2⟩
        obtain ⟨ev, hev⟩ : ∃ ev : Int, (if d.find y = none then (6 : Int) else 0) = ev := ⟨_, rfl⟩
        rw [hev] at he
        subst he
        clear hev
        have hb2 : (b, f) ∈ R.filter fun r => decide (r.2.name ≠ y) := List.mem_filter.2 ⟨Hb.out, by simpa using Hxy.out⟩
        have hny : ∀ r ∈ R.filter (fun r => decide (r.2.name ≠ y)), r.2.name ≠ y := fun r hr => by simpa using (List.mem_filter.1 hr).2
        generalize R.filter (fun r => decide (r.2.name ≠ y)) = R2 at h2 hb2 hny
        have c2 := h2.c2
        have hl2 := h2.len
        have hle2 := h2.ok.len
        obtain ⟨w3, hrun3, hmap3, hgr3, hsz3, _⟩ := h2.map.delete lawS strLit_inj Tryz.underlying127 (x := f.name) (keyS hxm) 0
        rw [rowsD_del] at hmap3
        have hk3 : Keeps (fun k => k = bm) w2 w3 := (Keeps.of_grown hgr3).mono fun _ _ e => by simpa using e.symm
        have hp3 := hk3.grownTo h2.blk h2.p_ne
        have c23 : w3.cell? ⟨p, 2, none⟩ = some (.map (some bm)) := cell_of_row w3 p 2 _ _ _ hp3
        have hlf : (R2.filter fun r => decide (r.2.name ≠ f.name)).length ≤ 40 := Nat.le_trans (List.length_filter_le _ _) (by omega)
        obtain ⟨w4, hrun4, hmap4, hgr4, hsz4, _⟩ := hmap3.store lawS strLit_inj Tryz.underlying127 (by rw [rowsD_len]; unfold maxLen; omega) (x := y) (keyS hym) (getD_none fun r hr e => hny r (List.mem_filter.1 hr).1 e) (.pointer (some ⟨b, 0, none⟩))
        have hk4 : Keeps (fun k => k = bm) w3 w4 := (Keeps.of_grown hgr4).mono fun _ _ e => by simpa using e.symm
        have HK2 := Lib.hid hk2
        have HK24 := Lib.hid (hk3.trans hk4)
        have H2 := Lib.hid h2
        have HM4 := Lib.hid hmap4
        have Hb2 := Lib.hid hb2
        have Hny := Lib.hid hny
        clear hk2 hk3 hk4 h2 hmap3 hmap4 hgr3 hgr4 hsz3 hsz4 hp3 hb2 hny
        go_wp2_with fail
        go_ret
        have : d.ren f.name y = (0, d.move f y) := by unfold Dk.ren; rw [HF.out]; show (if _ then _ else _) = _; rw [if_neg (by rw [hn]; decide), if_neg Hxy.out]
        rw [this]
        have h2 := H2.out
        have hkA : Keeps (fun k => k = p ∨ k = bm) w1 w4 := HK2.out.andThen HK24.out (fun _ _ e => .inr e)
        have hsz1 := HB1.out.size
        have hsz4 := hkA.size
        have hfd : f ∈ (d.del y).L := List.mem_filter.2 ⟨hfL, by simpa using Hxy.out⟩
        have htot := total_del h2.nodup hfd
        have hok := h2.ok
        have hmove : (d.move f y).used = (d.del y).used := by
          show (total (((d.del y).del f.name).L ++ [{ f with name := y }]) : Int) = (total (d.del y).L : Int)
          rw [total_append, ← htot]
          show ((total ((d.del y).L.filter _) + (f.bytes.size + 0) : Nat) : Int) = _
          omega
        refine ⟨rfl, (Keeps.of_fresh HB1.out F).andThen hkA (fun k _ e => by rcases e with rfl | rfl; exact H.out.fp; exact H.out.fm), bm, (R2.filter fun r => decide (r.2.name ≠ f.name)) ++ [(b, { f with name := y })], ?_, ?_⟩
        · refine ⟨?_, ?_, ?_, fun r hr => ?_, ?_, .inl h2.fp, .inl h2.fm, fun r hr => ?_, fun k hk => hk.elim (fun e => by have := H.out.lt k e; omega) fun e => e.2⟩
          · show w4.heap[p]? = some (.cells #[.int .i64 d.room, .int .i64 (d.move f y).used, .map (some bm)] 129 (0, 0))
            rw [hmove]
            exact HK24.out.grownTo h2.blk h2.p_ne
          · rw [List.map_append]
            show _ = ((d.del y).L.filter _) ++ _
            rw [← h2.rL, List.filter_map]
            rfl
          · have := HM4.out
            unfold rowsD at this ⊢
            rw [List.map_append]
            exact this
          · rcases List.mem_append.1 hr with hr | hr
            · have := (List.mem_filter.1 hr).1
              exact HK24.out.grownTo (h2.rows r this) (h2.r_ne this)
            · obtain rfl := List.mem_singleton.1 hr
              exact HK24.out.grownTo (h2.rows (b, f) Hb2.out) (h2.r_ne (r := (b, f)) Hb2.out)
          · rw [List.map_append, ← List.cons_append, List.nodup_append]
            refine ⟨h2.dist.sublist (List.Sublist.cons_cons _ (List.Sublist.map _ List.filter_sublist)), by simp, fun a ha c hc => ?_⟩
            simp only [List.map_cons, List.map_nil, List.mem_singleton] at hc
            subst hc
            rintro rfl
            rcases List.mem_cons.1 ha with ha | ha
            · exact h2.p_row Hb2.out ha
            · obtain ⟨r, hr, e⟩ := List.mem_map.1 ha
              obtain ⟨hr1, hr2⟩ := List.mem_filter.1 hr
              have := nodup_at (List.nodup_cons.1 h2.dist).2 hr1 Hb2.out e
              subst this
              simp at hr2
          · rcases List.mem_append.1 hr with hr | hr
            · exact .inl (h2.fr r (List.mem_filter.1 hr).1)
            · obtain rfl := List.mem_singleton.1 hr
              exact .inl (h2.fr (b, f) Hb2.out)
        · have hu := hok.used
          refine ⟨hok.room1, hok.room2, ?_, ?_, fun q hq => ?_, fun q hq => ?_⟩
          · have := hmove
            unfold Dk.used at this
            show (total (d.move f y).L : Int) ≤ d.room
            rw [this]
            exact hu
          · have h3 : ((d.del y).L.filter fun q : Fl => decide (q.name ≠ f.name)).length < (d.del y).L.length := List.length_filter_lt_length_iff_exists.2 ⟨f, hfd, by simp⟩
            have := hok.len
            show (((d.del y).L.filter fun q : Fl => decide (q.name ≠ f.name)) ++ [_]).length ≤ 40
            rw [List.length_append, List.length_singleton]
            omega
          · rcases List.mem_append.1 hq with hq | hq
            · exact hok.syn q (List.mem_filter.1 hq).1
            · obtain rfl := List.mem_singleton.1 hq
              exact hok.syn f hfd
          · rcases List.mem_append.1 hq with hq | hq
            · exact hok.nms q (List.mem_filter.1 hq).1
            · obtain rfl := List.mem_singleton.1 hq
              exact Hy.out
end Go.Proofs.YthebmbhdlkldiaaGreatDoor.Dsk

/- 'for x, v := range m' over a map that reads as a list of rows: what is still to come, as a list of rows. Proved for every program; no condition. -/
namespace Go.Bl
open Go.RowKit

/-- The loop at block r over the map at block b, whose rows are A; the rows 'rem' are still to come. -/
def RangeL {κ : Type} [DecidableEq κ] (w : World) (P : Program) (k : TypeId) (mk : κ → Lit) (b r : Nat) (A rem : List (κ × Value)) : Prop :=
  (A.map Prod.fst).Nodup ∧ ∃ (D : DataW Value) (left : Lit → Bool) (cnt : Nat), w.ranges P k Rv b r A.length D left cnt ∧ Maps.size D = A.length ∧
    (∀ x z, D.atKey (mk x) z = match getL A x with | some v => .held v | none => z) ∧ (∀ x, Maps.has D (mk x) = (getL A x).isSome) ∧ rem = A.filter fun q => left (mk q.1)
section
variable {κ : Type} [DecidableEq κ] {w w' : World} {P : Program} {k : TypeId} {mk : κ → Lit} {b r : Nat} {A rem : List (κ × Value)}
theorem RangeL.map (h : RangeL w P k mk b r A rem) : MapL w P k mk b A := by
  obtain ⟨h0, D, left, cnt, h1, h2, h3, h4, _⟩ := h
  exact ⟨h0, D, h1.owns, h2, h3, h4⟩
theorem RangeL.lt (h : RangeL w P k mk b r A rem) : r < w.heap.size := by
  obtain ⟨h0, D, left, cnt, h1, _⟩ := h
  exact h1.lt
theorem RangeL.ne (h : RangeL w P k mk b r A rem) : r ≠ b := by
  obtain ⟨h0, D, left, cnt, h1, _⟩ := h
  exact h1.ne
theorem RangeL.sub (h : RangeL w P k mk b r A rem) : ∀ q ∈ rem, q ∈ A := by
  obtain ⟨h0, D, left, cnt, _, _, _, _, rfl⟩ := h
  exact fun q hq => (List.mem_filter.1 hq).1
theorem RangeL.keep {G : Nat → Prop} (h : RangeL w P k mk b r A rem) (hk : Keeps G w w') (hb : ¬ G b) (hr : ¬ G r) : RangeL w' P k mk b r A rem ∧ w'.rangeLeft b r = w.rangeLeft b r := by
  obtain ⟨h0, D, left, cnt, h1, h2⟩ := h
  have e1 := h1.left_eq
  obtain ⟨es, clock, since, seen, c0, hb1, F, hs, hD, hr1, rest⟩ := h1
  have h1' : w'.ranges P k Rv b r A.length D left cnt := ⟨es, clock, since, seen, c0, hk.grownTo hb1 hb, F, hs, hD, hk.grownTo hr1 hr, rest⟩
  exact ⟨⟨h0, D, left, cnt, h1', h2⟩, h1'.left_eq.trans e1.symm⟩

variable {ops : Array Oper} {rest : List Oper} {o : Oper} {a : Act} {Q : Exit → Act → World → Prop}
theorem wpList_rangeL (w : World) (hg : o.guard = none) (m : Operand) (t : TypeId) (hop : o.op = Op.range t m) (k e : TypeId) (K : Maps.Keyed P k) (ht : P.underlying t = some (.map k e)) (mk : κ → Lit) (b : Nat) (A : List (κ × Value))
    (hm : a.eval m = .map (some b)) (h : MapL w P k mk b A)
    (hK : ∀ w', RangeL w' P k mk b w.heap.size A A → Keeps (fun _ => False) w w' → w'.heap.size = w.heap.size + 1 → wpList P ops Q rest (a.put o.dst (.pointer (some ⟨w.heap.size, 0, none⟩))) w') :
    wpList P ops Q (o :: rest) a w := by
  obtain ⟨h0, D, h1, h2, h3, h4⟩ := h
  refine wpList_range_own w hg m t hop k e K ht Rv b A.length D hm h1 fun w' r1 r2 r3 => hK w' ⟨h0, D, _, _, r1, h2, h3, h4, ?_⟩ ((Keeps.of_grown r2).mono fun _ _ e => by simp at e) r3
  symm
  rw [List.filter_eq_self]
  intro q hq
  rw [h4, getL_of_mem h0 (show (q.1, q.2) ∈ A from hq)]
  rfl
theorem wpList_nextL (w : World) (hg : o.guard = none) (it : Operand) (hop : o.op = Op.next it false) (k : TypeId) (K : Maps.Keyed P k) (mk : κ → Lit) (mkK : κ → Value) (inv : ∀ key kl, keyOf P k key = some kl → ∃ x, key = mkK x ∧ kl = mk x)
    (hkey : ∀ x kl, keyOf P k (mkK x) = some kl → kl = mk x) (hinj : ∀ x y, mk x = mk y → x = y) (hself : ∀ x, (mk x).sameKey (mk x) = true) (b r : Nat) (A rem : List (κ × Value))
    (hit : a.eval it = .pointer (some ⟨r, 0, none⟩)) (h : RangeL w P k mk b r A rem)
    (hDone : rem = [] → wpList P ops Q rest (a.put o.dst (.tuple #[.bool false])) w)
    (hMore : ∀ x v w', (x, v) ∈ rem → RangeL w' P k mk b r A (rem.filter fun q => decide (q.1 ≠ x)) → Keeps (fun z => z = r) w w' → w'.heap.size = w.heap.size → w'.rangeLeft b r < w.rangeLeft b r →
      (Instr.entry (.pointer (some ⟨r, 0, none⟩))).run P w' = .ok (.tuple #[mkK x, v]) w' → wpList P ops Q rest (a.put o.dst (.tuple #[.bool true, mkK x, v])) w') :
    wpList P ops Q (o :: rest) a w := by
  obtain ⟨h0, D, left, cnt, h1, h2, h3, h4, hrem⟩ := h
  refine wpList_next_ranges w hg it hop k K Rv mkK (fun v : Value => v) (fun key kl hk => by obtain ⟨x, e, _⟩ := inv key kl hk; exact ⟨x, e⟩) (fun v _ _ => ⟨v, rfl⟩) b r A.length D left cnt hit h1 (fun _ hl => hDone ?_) (fun x v kl y w' cnt' hk hl hy hat hr hlt hg hs hen => ?_)
  · rw [hrem, List.filter_eq_nil_iff]
    intro q _
    rw [hl]
    simp
  · obtain rfl := hkey x kl hk
    simp only [Rv, Option.some.injEq] at hy
    subst hy
    have hget : getL A x = some v := by
      cases hgA : getL A x with
      | none =>
        have e1 := hat (.held (.bool true))
        have e2 := hat (.held (.bool false))
        rw [h3, hgA] at e1 e2
        simp only [DataW.held.injEq] at e1 e2
        rw [← e1] at e2
        simp at e2
      | some u =>
        have e1 := hat (.held v)
        rw [h3, hgA] at e1
        have e2 : u = v := by simpa using e1
        rw [e2]
    refine hMore x v w' ?_ ⟨h0, D, _, _, hr, h2, h3, h4, ?_⟩ ((Keeps.of_grown hg).mono fun _ _ e => by simpa using e.symm) hs (by rw [hr.left_eq, h1.left_eq]; exact hlt) hen
    · rw [hrem, List.mem_filter]
      exact ⟨getL_mem hget, hl⟩
    · rw [hrem, List.filter_filter]
      refine List.filter_congr fun q _ => ?_
      by_cases e : q.1 = x
      · rw [e, hself]; simp
      · rw [Maps.sameKey_ne (fun e2 => e (hinj _ _ e2))]
        simp [e]
end
end Go.Bl

/- The disk: Clone: a copy that shares nothing. -/
namespace Go.Proofs.YthebmbhdlkldiaaGreatDoor.Dsk
open Go.RowKit Go.Bl
attribute [local go_sem ↓] Go.wp_at_zero Go.wp_at_succ

theorem total_perm {L M : List Fl} (h : L.Perm M) : total L = total M := (h.map fun f : Fl => f.bytes.size).sum_nat
theorem Dk.Ok.perm {d : Dk} (h : d.Ok) {L : List Fl} (hp : L.Perm d.L) : (⟨d.room, L⟩ : Dk).Ok :=
  ⟨h.room1, h.room2, by show (total L : Int) ≤ _; rw [total_perm hp]; exact h.used, by show L.length ≤ 40; rw [hp.length_eq]; exact h.len, fun f hf => h.syn f (hp.mem_iff.1 hf), fun f hf => h.nms f (hp.mem_iff.1 hf)⟩
theorem keyStr {key : Value} {kl : Lit} (h : keyOf Tryz.prog 9 key = some kl) : ∃ x : ByteArray, key = .string x ∧ kl = strLit x := by
  have hk : Tryz.prog.underlying 9 = some .string := Tryz.underlying9
  cases key <;> simp [keyOf, hk, mapKey] at h
  exact ⟨_, rfl, h.2.symm⟩

theorem perm_out {q : Nat × Fl} : ∀ {S : List (Nat × Fl)}, (S.map fun r => r.2.name).Nodup → q ∈ S → S.Perm (q :: S.filter fun s => decide (s.2.name ≠ q.2.name))
  | [], _, hm => by cases hm
  | r :: S, hn, hm => by
    rw [List.map_cons, List.nodup_cons] at hn
    rcases List.mem_cons.1 hm with e | hm
    · subst e
      rw [List.filter_cons_of_neg (by simp), List.filter_eq_self.2 (fun s hs => by simpa using fun e => hn.1 (List.mem_map.2 ⟨s, hs, e⟩))]
    · have hne : r.2.name ≠ q.2.name := fun e => hn.1 (List.mem_map.2 ⟨_, hm, e.symm⟩)
      rw [List.filter_cons_of_pos (by simpa using hne)]
      exact ((perm_out hn.2 hm).cons r).trans (List.Perm.swap _ _ _)

/-- What has been copied of a disk: R' of its files; S are still to come. -/
structure CopyD (w wr : World) (d : Dk) (bm : Nat) (R S R' : List (Nat × Fl)) : Prop where
  rng : RangeL wr Tryz.prog 9 strLit bm (w.heap.size + 2) (rowsD R) (rowsD S)
  map : MapL wr Tryz.prog 9 strLit w.heap.size (rowsD R')
  cb : wr.heap[w.heap.size + 1]? = some (.cells #[.int .i64 d.room, .int .i64 d.used, .map (some w.heap.size)] 129 (0, 0))
  sub : ∀ r ∈ S, r ∈ R
  rows : ∀ r ∈ R', wr.heap[r.1]? = some (.cells (flc r.2).toArray 137 (0, 0))
  fr : ∀ r ∈ R', w.heap.size + 2 < r.1 ∧ r.1 < wr.heap.size
  dist : (R'.map Prod.fst).Nodup
  new : ∀ r' ∈ R', ∀ r ∈ S, r.2.name ≠ r'.2.name
  perm : (R'.map Prod.snd ++ S.map Prod.snd).Perm (R.map Prod.snd)
  nds : (S.map fun r => r.2.name).Nodup
  blw : Below w.heap.size w wr

theorem copyD_end {w wr : World} {p : Nat} {d : Dk} {F : Nat → Prop} {bm : Nat} {R R' : List (Nat × Fl)} (h : DskIn w p d F bm R) (hc : CopyD w wr d bm R [] R') :
    ∃ L', L'.Perm d.L ∧ DskAt wr (w.heap.size + 1) ⟨d.room, L'⟩ (fun k => w.heap.size ≤ k ∧ k < wr.heap.size) := by
  have hl := hc.map.lt
  have hcb := (Array.getElem?_eq_some_iff.1 hc.cb).1
  have hp : (R'.map Prod.snd).Perm d.L := by
    have := hc.perm
    rw [List.map_nil, List.append_nil, h.rL] at this
    exact this
  have hu : (⟨d.room, R'.map Prod.snd⟩ : Dk).used = d.used := by
    show (total (R'.map Prod.snd) : Int) = (total d.L : Int)
    rw [total_perm hp]
  refine ⟨R'.map Prod.snd, hp, w.heap.size, R', ⟨by rw [hu]; exact hc.cb, rfl, hc.map, hc.rows, ?_, ⟨Nat.le_succ _, hcb⟩, ⟨Nat.le_refl _, hl⟩, fun r hr => ?_, fun k hk => hk.2⟩, h.ok.perm hp⟩
  · refine List.nodup_cons.2 ⟨fun hm => ?_, hc.dist⟩
    obtain ⟨r, hr, e⟩ := List.mem_map.1 hm
    have := (hc.fr r hr).1
    omega
  · have := hc.fr r hr
    omega
end Go.Proofs.YthebmbhdlkldiaaGreatDoor.Dsk

/- The disk: Crash. Under the stated premises on sizes. -/
namespace Go.Proofs.YthebmbhdlkldiaaGreatDoor.Dsk
open Go.RowKit Go.Bl
attribute [local go_sem ↓] Go.wp_at_zero Go.wp_at_succ

def intc (n : Int) : List Value := [.int .i64 n]
/-- How many bytes more are kept of the file of place i. -/
def keepOf (keep : List Int) (i : Nat) : Int := gmax ((keep[i]?).getD 0) 0
def cutK (n : Int) (f : Fl) : Int := f.syn + gmin n ((f.bytes.size : Int) - f.syn)
def cutF (n : Int) (f : Fl) : Fl := { f with bytes := f.bytes.extract 0 (cutK n f).toNat, syn := cutK n f }
/-- The first k files, of the names ks, behind a crash. -/
def crashN (keep : List Int) (ks : List ByteArray) (L : List Fl) : Nat → List Fl
  | 0 => L
  | k + 1 => updL ((ks[k]?).getD ByteArray.empty) (cutF (keepOf keep k)) (crashN keep ks L k)
theorem keepOf_nonneg (keep : List Int) (i : Nat) : 0 ≤ keepOf keep i := by unfold keepOf gmax; omega
theorem keepOf_in {keep : List Int} {i : Nat} (h : i < keep.length) : gmax keep[i] 0 = keepOf keep i := by unfold keepOf; rw [List.getElem?_eq_getElem h]; rfl
theorem keepOf_out {keep : List Int} {i : Nat} (h : ¬ i < keep.length) : keepOf keep i = 0 := by unfold keepOf; rw [List.getElem?_eq_none (by omega)]; rfl
theorem cutK_in {n : Int} {f : Fl} (hn : 0 ≤ n) (h : 0 ≤ f.syn ∧ f.syn ≤ f.bytes.size) : f.syn ≤ cutK n f ∧ cutK n f ≤ f.bytes.size := by unfold cutK gmin; omega
theorem extract_size (s : ByteArray) {k : Nat} (h : k ≤ s.size) : (s.extract 0 k).size = k := by rw [ByteArray.size_extract]; omega
theorem updL_names (x : ByteArray) {g : Fl → Fl} (hg : ∀ f, (g f).name = f.name) (L : List Fl) : (updL x g L).map Fl.name = L.map Fl.name := by
  unfold updL
  rw [List.map_map]
  refine List.map_congr_left fun f _ => ?_
  show (if f.name = x then g f else f).name = f.name
  split
  · rw [hg]
  · rfl
theorem crashN_names (keep : List Int) (ks : List ByteArray) (L : List Fl) : ∀ k, (crashN keep ks L k).map Fl.name = L.map Fl.name
  | 0 => rfl
  | k + 1 => by
    show (updL _ _ _).map Fl.name = _
    rw [updL_names _ (g := cutF (keepOf keep k)) (fun _ => rfl), crashN_names keep ks L k]
theorem total_cons (f : Fl) (L : List Fl) : total (f :: L) = f.bytes.size + total L := by simp [total]
theorem updL_cons (x : ByteArray) (g : Fl → Fl) (f : Fl) (L : List Fl) : updL x g (f :: L) = (if f.name = x then g f else f) :: updL x g L := rfl
theorem updL_not {x : ByteArray} {g : Fl → Fl} {L : List Fl} (h : ∀ f ∈ L, f.name ≠ x) : updL x g L = L := by
  unfold updL
  conv => rhs; rw [← List.map_id L]
  refine List.map_congr_left fun q hq => ?_
  rw [if_neg (h q hq)]
  rfl
/-- What the files of some names hold together, one of them turned. -/
theorem total_filter_upd {S S' : ByteArray → Bool} {g : Fl → Fl} (hg : ∀ f, (g f).name = f.name) {f : Fl} (hS : S f.name = false) (hS' : ∀ y, S' y = (S y || decide (y = f.name))) :
    ∀ {L : List Fl}, (L.map Fl.name).Nodup → f ∈ L → total ((updL f.name g L).filter fun q => S' q.name) = total (L.filter fun q => S q.name) + (g f).bytes.size
  | [], _, hf => by cases hf
  | q :: L, hn, hf => by
    rw [List.map_cons, List.nodup_cons] at hn
    rcases List.mem_cons.1 hf with e | hf
    · subst e
      have h0 : ∀ r ∈ L, r.name ≠ f.name := fun r hr e => hn.1 (List.mem_map.2 ⟨r, hr, e⟩)
      rw [updL_cons, if_pos rfl, updL_not h0, List.filter_cons_of_pos (by rw [hg, hS']; simp), List.filter_cons_of_neg (by rw [hS]; decide), total_cons]
      have : (L.filter fun q => S' q.name) = L.filter fun q => S q.name := List.filter_congr fun r hr => by rw [hS']; simp [h0 r hr]
      rw [this]
      omega
    · have hne : q.name ≠ f.name := fun e => hn.1 (List.mem_map.2 ⟨f, hf, e.symm⟩)
      have ih := total_filter_upd hg hS hS' hn.2 hf
      rw [updL_cons, if_neg hne]
      have e : S' q.name = S q.name := by rw [hS']; simp [hne]
      cases hq : S q.name
      · rw [List.filter_cons_of_neg (by rw [e, hq]; decide), List.filter_cons_of_neg (by rw [hq]; decide)]
        exact ih
      · rw [List.filter_cons_of_pos (by rw [e, hq]), List.filter_cons_of_pos (by rw [hq]), total_cons, total_cons]
        omega
theorem total_upd_le {x : ByteArray} {g : Fl → Fl} : ∀ {L : List Fl}, (∀ f ∈ L, (g f).bytes.size ≤ f.bytes.size) → total (updL x g L) ≤ total L
  | [], _ => Nat.le_refl _
  | q :: L, h => by
    have ih := total_upd_le (x := x) (g := g) (L := L) (fun f hf => h f (List.mem_cons_of_mem _ hf))
    rw [updL_cons, total_cons, total_cons]
    have := h q (List.mem_cons_self ..)
    split <;> omega
theorem crashN_succ (keep : List Int) {ks : List ByteArray} (L : List Fl) {k : Nat} (h : k < ks.length) : crashN keep ks L (k + 1) = updL ks[k] (cutF (keepOf keep k)) (crashN keep ks L k) := by
  show updL ((ks[k]?).getD _) _ _ = _
  rw [List.getElem?_eq_getElem h]
  rfl
theorem cutF_size {n : Int} {f : Fl} (hn : 0 ≤ n) (h : 0 ≤ f.syn ∧ f.syn ≤ f.bytes.size) : ((cutF n f).bytes.size : Int) = cutK n f := by
  have := cutK_in hn h
  show ((f.bytes.extract 0 (cutK n f).toNat).size : Int) = _
  rw [extract_size _ (by omega)]
  omega

theorem total_filter_le (P : Fl → Bool) : ∀ L : List Fl, total (L.filter P) ≤ total L
  | [] => Nat.le_refl _
  | f :: L => by
    have ih := total_filter_le P L
    rw [List.filter_cons, total_cons]
    split
    · rw [total_cons]; omega
    · omega
def amid (ks : List ByteArray) (y : ByteArray) : Bool := ks.any fun x => decide (x = y)
theorem amid_iff {ks : List ByteArray} {y : ByteArray} : amid ks y = true ↔ y ∈ ks := by simp [amid]
theorem amid_succ {ks : List ByteArray} {k : Nat} (h : k < ks.length) (y : ByteArray) : amid (ks.take (k + 1)) y = (amid (ks.take k) y || decide (y = ks[k])) := by
  unfold amid
  rw [List.take_succ_eq_append_getElem h, List.any_append]
  simp [eq_comm]
theorem amid_not {ks : List ByteArray} {k : Nat} (h : k < ks.length) (hr : Rising ks) : amid (ks.take k) ks[k] = false := by
  cases e : amid (ks.take k) ks[k] with
  | false => rfl
  | true =>
    obtain ⟨i, hi, e2⟩ := List.mem_iff_getElem.1 (amid_iff.1 e)
    rw [List.length_take] at hi
    rw [List.getElem_take] at e2
    exact absurd (e2 ▸ List.pairwise_iff_getElem.1 hr i k (by omega) h (by omega)) (fun h => by rw [bLt_iff] at h; exact List.lt_irrefl _ h)

def CrashRel (w : World) (p : Nat) (d : Dk) (F : Nat → Prop) (bm : Nat) (keep : List Int) (ks : List ByteArray) (i : Value) (wr : World) : Prop :=
  ∃ (k : Nat) (R : List (Nat × Fl)), k ≤ ks.length ∧ i = .int .i64 k ∧ (⟨d.room, crashN keep ks d.L k⟩ : Dk).Ok ∧
    DskR wr p d.room (total ((crashN keep ks d.L k).filter fun q : Fl => amid (ks.take k) q.name)) (crashN keep ks d.L k) F bm R ∧ Keeps F w wr

set_option maxRecDepth 8000 in
set_option maxHeartbeats 4000000 in
theorem crash_any (w : World) (p : Nat) (d : Dk) (F G : Nat → Prop) (h : DskAt w p d F) (kv : Value) (keep : List Int) (hkv : Sl w G 1 intc kv keep) (hG : ∀ k, G k → ¬ F k) :
    Calls Tryz.prog 25 #[.pointer (some ⟨p, 0, none⟩), kv] w fun e w' => e = .returned (.tuple #[]) ∧ Keeps F w w' ∧ ∃ ks, Names d.L ks ∧ DskAt w' p ⟨d.room, crashN keep ks d.L ks.length⟩ F := by
  obtain ⟨bm, R, h⟩ := h
  obtain ⟨A, c, rfl, hA1, hA2⟩ := hkv.shape
  unfold maxLen at hA2
  have hmx := @run_gmax Tryz.prog
  have hmn := @run_gmin Tryz.prog
  have c1 := h.c1
  have f1 : w.frozen? ⟨p, 1, none⟩ = false := frozen_block h.blk 1
  have hp := h.lt p h.fp
  have H := Lib.hid h
  have HK := Lib.hid hkv
  clear h hkv
  go_enter Tryz.func25, Tryz.ntmps25
  go_wp2_with fail
  have hk1 := Keeps.one w p 1 (.int .i64 0)
  have hblk1 := setCell_block (o := 1) H.out.blk (.int .i64 0)
  have hz1 := size_setCell w ⟨p, 1, none⟩ (.int .i64 0)
  generalize w.setCell ⟨p, 1, none⟩ (.int .i64 0) = w1 at hk1 hblk1 hz1 ⊢
  have hr1 : DskR w1 p d.room 0 d.L F bm R := ⟨hblk1, H.out.rL, H.out.map.keep hk1 (fun e => H.out.p_ne e.symm), fun r hr => hk1.grownTo (H.out.rows r hr) (H.out.p_row hr), H.out.dist, H.out.fp, H.out.fm, H.out.fr, fun k hk => Nat.lt_of_lt_of_le (H.out.lt k hk) hk1.size⟩
  refine (list_in w1 p d.room 0 d.L F bm R hr1 H.out.ok.len).mono ?_
  rintro e w2 ⟨v, ks, rfl, hN, hB2, hS2⟩
  obtain ⟨B, cb, rfl, hB1, hBm⟩ := hS2.shape
  have hks := hN.len H.out.nodup
  have hl40 := H.out.ok.len
  have hS2 := hS2.bound
  have hr2 := hr1.keep (Keeps.of_fresh hB2 fun _ => False) (fun _ _ => id)
  have hk2 : Keeps F w w2 := (hk1.mono (fun k _ e => e ▸ H.out.fp)).fresh hB2
  have HKS := Lib.hid hks
  have HS := Lib.hid hS2
  clear hks
  have HN := Lib.hid hN
  have HR2 := Lib.hid hr2
  have HK2 := Lib.hid hk2
  clear hk1 hblk1 hr1 hB2 hS2 hN hr2 hk2 c1 f1 hBm
  go_wp2_with fail
  go_loopw [14, 4, 5, 6, 7] (fun i _ _ _ _ wr => CrashRel w p d F bm keep ks i wr ∧ Keeps F w2 wr) (fun i _ _ _ _ _ => ks.length - (intOf i).toNat)
  case atStart =>
    refine ⟨⟨0, R, Nat.zero_le _, rfl, H.out.ok, ?_, HK2.out⟩, Keeps.refl _ _⟩
    have : ((crashN keep ks d.L 0).filter fun q : Fl => amid (ks.take 0) q.name) = [] := by simp [amid]
    rw [this]
    exact HR2.out
  case round =>
    obtain ⟨⟨k, Rk, hk, rfl, hok, hr, hkw⟩, hkw2⟩ := hrel
    by_cases hlt : k < ks.length
    · have hk40 : k < 40 := by have := HKS.out; omega
      have hmemL : ks[k] ∈ (crashN keep ks d.L k).map Fl.name := by
        rw [crashN_names]
        obtain ⟨f0, hf0, e⟩ := (HN.out.2 _).1 (List.getElem_mem hlt)
        exact List.mem_map.2 ⟨f0, hf0, e⟩
      obtain ⟨f, hfL, hfx⟩ := List.mem_map.1 hmemL
      obtain ⟨b, hb⟩ := hr.row hfL
      have hnm := hok.nms f hfL
      have hsy := hok.syn f hfL
      have hl := hr.lookY hb (by unfold maxLen; omega)
      rw [hfx] at hl
      have hfb : f.bytes.size ≤ 1073741824 := by have h1 := total_mem hfL; have h2 : (total (crashN keep ks d.L k) : Int) ≤ d.room := hok.used; have h3 : d.room ≤ 1073741824 := hok.room2; omega
      have b0 : wr.cell? ⟨b, 0, none⟩ = some (.string f.bytes) := cell_of_row wr b 0 _ _ _ (hr.rows _ hb)
      have b1 : wr.cell? ⟨b, 1, none⟩ = some (.int .i64 f.syn) := cell_of_row wr b 1 _ _ _ (hr.rows _ hb)
      have f0 : wr.frozen? ⟨b, 0, none⟩ = false := frozen_block (hr.rows _ hb) 0
      have c2 := hr.c2
      have hpb : b ≠ p := hr.p_row hb
      have hn0 := keepOf_nonneg keep k
      have hKb := cutK_in hn0 hsy
      obtain ⟨K, hK⟩ : ∃ K : Nat, cutK (keepOf keep k) f = (K : Int) := ⟨(cutK (keepOf keep k) f).toNat, by omega⟩
      rw [hK] at hKb
      have hKn : K ≤ f.bytes.size := by omega
      have hKs := extract_size f.bytes hKn
      have HK0 := Lib.hid hK
      unfold cutK at hK
      have hSr := HS.out.keep hkw2 (fun q _ hq hx => by have := H.out.lt q hx; omega)
      obtain ⟨bs, os, hbs, hGs, hbsl, hxs⟩ := hSr.cell_ hlt
      have x0 := hxs 0 _ rfl
      simp only [Nat.mul_one, Nat.add_zero] at x0
      subst hbs
      have HKr := Lib.hid (HK.out.keep hkw (fun q _ hq hx => hG q hq hx))
      have hule := total_filter_le (fun q : Fl => amid (ks.take k) q.name) (crashN keep ks d.L k)
      have huk : (total (crashN keep ks d.L k) : Int) ≤ d.room := hok.used
      have hr30 : d.room ≤ 1073741824 := hok.room2
      obtain ⟨U, hU⟩ : ∃ U : Nat, total ((crashN keep ks d.L k).filter fun q : Fl => amid (ks.take k) q.name) = U := ⟨_, rfl⟩
      rw [hU] at hr hule
      have hU30 : U ≤ 1073741824 := by omega
      have HU := Lib.hid hU
      have HR := Lib.hid hr
      have HOK := Lib.hid hok
      have HKW := Lib.hid hkw
      have HKW2 := Lib.hid hkw2
      have Hfx := Lib.hid hfx
      have Hb := Lib.hid hb
      have HfL := Lib.hid hfL
      clear hU hule huk hr30 hmemL hr hok hkw hkw2 hfx hb hSr hxs hS2
      go_upto_if 22 with (fail)
      go_cut [6] (fun s6 wx => s6 = .int .i64 (keepOf keep k) ∧ wr = wx)
      case first =>
        by_cases hki : k < keep.length
        · obtain ⟨bk, ok, rfl, _, _, hxk⟩ := HKr.out.cell_ hki
          have y0 := hxk 0 _ rfl
          simp only [Nat.mul_one, Nat.add_zero] at y0
          clear hxk hl b0 b1 f0 c2 x0
          go_wp2_with fail
          go_meet
          exact ⟨by rw [keepOf_in hki], rfl⟩
        · clear hl b0 b1 f0 c2 x0
          go_wp2_with fail
          go_meet
          exact ⟨by rw [keepOf_out hki], rfl⟩
      case rest =>
        obtain ⟨rfl, rfl⟩ := hcut
        go_upto_region 8 with (fail)
        go_region
        have hk3 := (Keeps.one wr b 0 (.string (f.bytes.extract 0 K))).drew
        have hblk3 : (wr.setCell ⟨b, 0, none⟩ (.string (f.bytes.extract 0 K))).drew.heap[b]? = _ := setCell_block (o := 0) (HR.out.rows _ Hb.out) (.string (f.bytes.extract 0 K))
        generalize (wr.setCell ⟨b, 0, none⟩ (.string (f.bytes.extract 0 K))).drew = w3 at hk3 hblk3 ⊢
        clear b0 b1 f0 c2 x0 hl
        have b0 : w3.cell? ⟨b, 0, none⟩ = some (.string (f.bytes.extract 0 K)) := cell_of_row w3 b 0 _ _ _ hblk3
        have b1 : w3.cell? ⟨b, 1, none⟩ = some (.int .i64 f.syn) := cell_of_row w3 b 1 _ _ _ hblk3
        have f1 : w3.frozen? ⟨b, 1, none⟩ = false := frozen_block hblk3 1
        have HK3 := Lib.hid hk3
        have HBL3 := Lib.hid hblk3
        clear hk3 hblk3
        go_upto_region 10 with (fail)
        have hk4 := Keeps.one w3 b 1 (.int .i64 K)
        have hblk4 := setCell_block (o := 1) HBL3.out (.int .i64 K)
        generalize w3.setCell ⟨b, 1, none⟩ (.int .i64 K) = w4 at hk4 hblk4 ⊢
        clear b0 b1 f1
        have hp4 := (HK3.out.trans hk4).grownTo HR.out.blk (fun e => hpb e.symm)
        have b0 : w4.cell? ⟨b, 0, none⟩ = some (.string (f.bytes.extract 0 K)) := cell_of_row w4 b 0 _ _ _ hblk4
        have c1 : w4.cell? ⟨p, 1, none⟩ = some (.int .i64 U) := cell_of_row w4 p 1 _ _ _ hp4
        have f1 : w4.frozen? ⟨p, 1, none⟩ = false := frozen_block hp4 1
        have HK4 := Lib.hid (HK3.out.trans hk4)
        have HBL4 := Lib.hid hblk4
        have HP4 := Lib.hid hp4
        clear hk4 hblk4 hp4 HK3 HBL3
        go_region
        have hk5 := (Keeps.one w4 p 1 (.int .i64 ((U : Int) + (K : Int)))).drew
        have hblk5 : (w4.setCell ⟨p, 1, none⟩ (.int .i64 ((U : Int) + (K : Int)))).drew.heap[p]? = _ := setCell_block (o := 1) HP4.out (.int .i64 ((U : Int) + (K : Int)))
        generalize (w4.setCell ⟨p, 1, none⟩ (.int .i64 ((U : Int) + (K : Int)))).drew = w5 at hk5 hblk5 ⊢
        clear b0 c1 f1
        have hkb : Keeps (fun q => q = b ∨ q = p) wr w5 := (HK4.out.mono fun _ _ e => .inl e).andThen hk5 (fun _ _ e => .inr e)
        have hb5 := hk5.grownTo HBL4.out hpb
        have hnodup := HR.out.nodup
        have hoo := HOK.out
        have hkk := HK0.out
        have hg : ∀ q : Fl, (cutF (keepOf keep k) q).name = q.name := fun _ => rfl
        have hup := HR.out.upd Hb.out (g := cutF (keepOf keep k)) (u' := (U : Int) + (K : Int)) hg hkb (by
          show _ = some (Obj.cells #[.string (f.bytes.extract 0 (cutK (keepOf keep k) f).toNat), .int .i64 (cutK (keepOf keep k) f)] 137 (0, 0))
          rw [hkk]
          exact hb5) hblk5
        have hks := crashN_succ keep d.L hlt
        have hfu := total_filter_upd (S := amid (ks.take k)) (S' := amid (ks.take (k + 1))) hg (f := f) (by rw [Hfx.out]; exact amid_not hlt HN.out.1) (fun y => by rw [amid_succ hlt, Hfx.out]) hnodup HfL.out
        rw [Hfx.out] at hup hfu
        rw [← hks] at hup hfu
        rw [HU.out] at hfu
        have hcs := cutF_size hn0 hsy
        rw [hkk] at hcs
        have hle := total_upd_le (x := f.name) (g := cutF (keepOf keep k)) (L := crashN keep ks d.L k) (fun q hq => by
          have h1 := hoo.syn q hq
          have h2 := cutF_size hn0 h1
          have h3 := cutK_in hn0 h1
          omega)
        have hou := hoo.used
        have hoK := hoo.upd hnodup HfL.out hg ⟨by show 0 ≤ cutK (keepOf keep k) f; omega, by rw [hcs]; show cutK (keepOf keep k) f ≤ _; omega⟩ (by show (total (updL f.name _ (crashN keep ks d.L k)) : Int) ≤ d.room; have h1 : (total (crashN keep ks d.L k) : Int) ≤ d.room := hou; omega)
        rw [show updL f.name (cutF (keepOf keep k)) (⟨d.room, crashN keep ks d.L k⟩ : Dk).L = crashN keep ks d.L (k + 1) by rw [hks, Hfx.out]] at hoK
        have hbF := HR.out.fr _ Hb.out
        have hpF := HR.out.fp
        have hkF : Keeps F wr w5 := hkb.mono (fun q _ e => by rcases e with rfl | rfl; exact hbF; exact hpF)
        go_wp2_with fail
        go_roundw
        case rel =>
          rw [show (U : Int) + (K : Int) = ((U + (cutF (keepOf keep k) f).bytes.size : Nat) : Int) by omega, ← hfu] at hup
          exact ⟨⟨k + 1, (Rk.map fun r => if r.2.name = ks[k] then (r.1, cutF (keepOf keep k) r.2) else r), hlt, by go_num, hoK, hup, HKW.out.trans hkF⟩, HKW2.out.trans hkF⟩
        case measure => simp [intOf]; omega
    · have hkd : k = ks.length := by omega
      subst hkd
      go_wp2_with fail
      go_end0
      refine ⟨rfl, hkw, ks, HN.out, bm, Rk, ?_, hok⟩
      have hall : ((crashN keep ks d.L ks.length).filter fun q : Fl => amid (ks.take ks.length) q.name) = crashN keep ks d.L ks.length := by
        rw [List.filter_eq_self]
        intro q hq
        rw [List.take_length, amid_iff]
        have h1 : q.name ∈ (crashN keep ks d.L ks.length).map Fl.name := List.mem_map.2 ⟨q, hq, rfl⟩
        rw [crashN_names] at h1
        obtain ⟨f0, hf0, e⟩ := List.mem_map.1 h1
        exact (HN.out.2 _).2 ⟨f0, hf0, e⟩
      rw [hall] at hr
      exact hr
end Go.Proofs.YthebmbhdlkldiaaGreatDoor.Dsk

/- The disk that keeps away from blocks X; the statements' own helpers: pick, shown. -/
namespace Go.Proofs.YthebmbhdlkldiaaGreatDoor.Dsk
open Go.RowKit Go.Bl
attribute [local go_sem ↓] Go.wp_at_zero Go.wp_at_succ

/-- A disk that lies in no block of X. -/
def Dsk (X : Nat → Prop) (w : World) (p : Nat) (d : Dk) : Prop := ∃ F, DskAt w p d F ∧ ∀ k, F k → ¬ X k
section
variable {X X' : Nat → Prop} {B : Nat} {w w' : World} {p : Nat} {d : Dk}
theorem Dsk.fresh (h : Dsk X w p d) (hk : Below w.heap.size w w') : Dsk X w' p d := by
  obtain ⟨F, h, hX⟩ := h
  exact ⟨F, h.fresh hk, hX⟩
theorem Dsk.keep (h : Dsk X w p d) (hk : Keeps X w w') : Dsk X w' p d := by
  obtain ⟨F, h, hX⟩ := h
  exact ⟨F, h.keep hk hX, hX⟩
theorem Dsk.drewN (h : Dsk X w p d) (n : Nat) : Dsk X (w.drewN n) p d := h.fresh ⟨rfl, rfl, rfl, Nat.le_refl _, fun _ _ => rfl⟩
theorem Dsk.ok (h : Dsk X w p d) : d.Ok := by obtain ⟨F, h, hX⟩ := h; exact h.ok
theorem Dsk.nodup (h : Dsk X w p d) : (d.L.map Fl.name).Nodup := by obtain ⟨F, ⟨bm, R, h⟩, hX⟩ := h; exact h.nodup
theorem Dsk.more (h : Dsk X w p d) (hm : ∀ k, X' k → X k ∨ w.heap.size ≤ k) : Dsk X' w p d := by
  obtain ⟨F, h, hX⟩ := h
  exact ⟨F, h, fun k hF hx => by rcases hm k hx with e | e; exact hX k hF e; have := h.lt k hF; omega⟩
theorem Dsk.plt (h : Dsk X w p d) : p < w.heap.size := by obtain ⟨F, h, hX⟩ := h; exact h.lt p h.fp
theorem Dsk.grow {d' : Dk} {F : Nat → Prop} (hF : ∀ k, F k → ¬ X k) (hX : ∀ k, X k → k < w.heap.size) (h' : DskAt w' p d' (fun k => F k ∨ (w.heap.size ≤ k ∧ k < w'.heap.size))) : Dsk X w' p d' :=
  ⟨_, h', fun k hk hx => by rcases hk with hk | hk; exact hF k hk hx; have := hX k hx; omega⟩
end
theorem sync_no_d {d : Dk} {x : ByteArray} (h : d.find x = none) : d.sync x = d := by
  unfold Dk.sync
  rw [updL_not (find_none.1 h)]
theorem keeps_notD {X F : Nat → Prop} {w w' : World} (hF : ∀ k, F k → ¬ X k) (h : Keeps F w w') : Keeps (fun k => ¬ X k) w w' := h.mono fun k _ hk => hF k hk

section
variable (w : World) (X : Nat → Prop) (hX : ∀ k, X k → k < w.heap.size)
include hX
theorem newD (room : Int) (h1 : 1 ≤ room) (h2 : room ≤ 1073741824) : Calls Tryz.prog 19 #[.int .i64 room] w fun e w' => ∃ p, e = .returned (.tuple #[.pointer (some ⟨p, 0, none⟩), .int .i64 0]) ∧
    Dsk X w' p ⟨room, []⟩ ∧ Below w.heap.size w w' :=
  (new_ok w room h1 h2).mono fun _ _ ⟨he, hN, hb⟩ => ⟨_, he, ⟨_, hN, fun k hk hx => by have := hX k hx; omega⟩, hb⟩
theorem appendD (hT : Tabs w) (p : Nat) (d : Dk) (h : Dsk X w p d) (x s : ByteArray) (hx : x.size ≤ 1000000) (hs : s.size ≤ 1000000000000000) :
    Calls Tryz.prog 23 #[.pointer (some ⟨p, 0, none⟩), .string x, .string s] w fun e w' => e = .returned (.int .i64 (d.app x s).1) ∧ Dsk X w' p (d.app x s).2 ∧ Keeps (fun k => ¬ X k) w w' := by
  obtain ⟨F, h, hF⟩ := h
  exact (append_any w p d F h hT x s hx hs).mono fun _ _ ⟨he, hk, hN⟩ => ⟨he, Dsk.grow hF hX hN, keeps_notD hF hk⟩
theorem renameD (hT : Tabs w) (p : Nat) (d : Dk) (h : Dsk X w p d) (x y : ByteArray) (hx : x.size ≤ 1000000) (hy : y.size ≤ 1000000) :
    Calls Tryz.prog 72 #[.pointer (some ⟨p, 0, none⟩), .string x, .string y] w fun e w' => e = .returned (.int .i64 (d.ren x y).1) ∧ Dsk X w' p (d.ren x y).2 ∧ Keeps (fun k => ¬ X k) w w' := by
  obtain ⟨F, h, hF⟩ := h
  exact (rename_any w p d F h hT x y hx hy).mono fun _ _ ⟨he, hk, hN⟩ => ⟨he, Dsk.grow hF hX hN, keeps_notD hF hk⟩
omit hX in
theorem deleteD (p : Nat) (d : Dk) (h : Dsk X w p d) (x : ByteArray) (hx : x.size ≤ maxLen) :
    Calls Tryz.prog 70 #[.pointer (some ⟨p, 0, none⟩), .string x] w fun e w' => e = .returned (.int .i64 (if d.find x = none then 6 else 0)) ∧ Dsk X w' p (d.del x) ∧ Keeps (fun k => ¬ X k) w w' := by
  obtain ⟨F, ⟨bm, R, h⟩, hF⟩ := h
  exact (delete_any w p d F bm R h x hx).mono fun _ _ ⟨he, hk, hN⟩ => ⟨he, ⟨F, ⟨bm, _, hN⟩, hF⟩, hk.mono fun k _ e => by rcases e with rfl | rfl; exact hF _ h.fp; exact hF _ h.fm⟩
omit hX in
theorem syncD (p : Nat) (d : Dk) (h : Dsk X w p d) (x : ByteArray) (hx : x.size ≤ maxLen) :
    Calls Tryz.prog 71 #[.pointer (some ⟨p, 0, none⟩), .string x] w fun e w' => e = .returned (.int .i64 (if d.find x = none then 6 else 0)) ∧ Dsk X w' p (d.sync x) ∧ Keeps (fun k => ¬ X k) w w' := by
  obtain ⟨F, h, hF⟩ := h
  cases hf : d.find x with
  | none =>
    refine (sync_no w p d F h x hx hf).mono ?_
    rintro e w' ⟨rfl, rfl⟩
    rw [sync_no_d hf]
    exact ⟨rfl, ⟨F, h, hF⟩, Keeps.refl _ _⟩
  | some f =>
    obtain ⟨hfL, rfl⟩ := find_some hf
    exact (sync_yes w p d F h f hfL hx).mono fun _ _ ⟨he, hk, hN⟩ => ⟨he, ⟨F, hN, hF⟩, keeps_notD hF hk⟩
omit hX in
theorem crashD (p : Nat) (d : Dk) (h : Dsk X w p d) (kv : Value) (keep : List Int) (hk : Sl w X 1 intc kv keep) :
    Calls Tryz.prog 25 #[.pointer (some ⟨p, 0, none⟩), kv] w fun e w' => e = .returned (.tuple #[]) ∧ ∃ ks, Names d.L ks ∧ Dsk X w' p ⟨d.room, crashN keep ks d.L ks.length⟩ ∧ Keeps (fun k => ¬ X k) w w' := by
  obtain ⟨F, h, hF⟩ := h
  exact (crash_any w p d F X h kv keep hk (fun k hx hf => hF k hf hx)).mono fun _ _ ⟨he, hk, ks, hN, hD⟩ => ⟨he, ks, hN, ⟨F, hD, hF⟩, keeps_notD hF hk⟩
omit hX in
theorem readD (p : Nat) (d : Dk) (h : Dsk X w p d) (x : ByteArray) (hx : x.size ≤ maxLen) : Calls Tryz.prog 80 #[.pointer (some ⟨p, 0, none⟩), .string x] w fun e w' => e = .returned (readV (d.find x)) ∧ w = w' := by
  obtain ⟨F, h, hF⟩ := h
  exact read_any w p d F h x hx
omit hX in
theorem usedD (p : Nat) (d : Dk) (h : Dsk X w p d) : Calls Tryz.prog 28 #[.pointer (some ⟨p, 0, none⟩)] w fun e w' => e = .returned (.int .i64 d.used) ∧ w = w' := by
  obtain ⟨F, h, hF⟩ := h
  exact used_any w p d F h
omit hX in
theorem listD (p : Nat) (d : Dk) (h : Dsk X w p d) : Calls Tryz.prog 79 #[.pointer (some ⟨p, 0, none⟩)] w fun e w' => ∃ v ks, e = .returned v ∧ Names d.L ks ∧ Below w.heap.size w w' ∧ Sl w' (fun b => w.heap.size ≤ b) 1 strc v ks := by
  obtain ⟨F, h, hF⟩ := h
  exact list_any w p d F h
end

def i64 (n : Int) : Prop := -9223372036854775808 ≤ n ∧ n ≤ 9223372036854775807
def pickOf (c n : Int) : Int := (if c < 0 then -(c + 1) else c) % n
theorem pick_any (w : World) (c n : Int) (hc : i64 c) (hn : 1 ≤ n ∧ n ≤ 1000000000) : Calls Tryz.prog 16 #[.int .i64 c, .int .i64 n] w fun e w' => e = .returned (.int .i64 (pickOf c n)) ∧ w = w' := by
  obtain ⟨c1, c2⟩ := hc
  obtain ⟨n1, n2⟩ := hn
  unfold pickOf
  by_cases h : c < 0
  · have d1 : decide (c < 0) = true := by simpa using h
    rw [if_pos h]
    have hb1 : 0 ≤ -(c + 1) := by omega
    have hv : -((c + 1).tmod n) = -(c + 1) % n := by rw [← Int.neg_tmod, Int.tmod_eq_emod_of_nonneg hb1]
    rw [← hv]
    clear hv
    go_enter Tryz.func16, Tryz.ntmps16
    go_wp2_with fail
    go_ret
    exact ⟨rfl, rfl⟩
  · have d1 : decide (c < 0) = false := by simpa using h
    rw [if_neg h]
    have hb1 : 0 ≤ c := by omega
    go_enter Tryz.func16, Tryz.ntmps16
    go_wp2_with fail
    go_ret
    exact ⟨rfl, rfl⟩
theorem pickOf_range (c : Int) {n : Int} (hn : 1 ≤ n) : 0 ≤ pickOf c n ∧ pickOf c n < n := by
  unfold pickOf
  exact ⟨Int.emod_nonneg _ (by omega), Int.emod_lt_of_pos _ (by omega)⟩

theorem Names.uniq {L : List Fl} {ks ks' : List ByteArray} (h : Names L ks) (h' : Names L ks') : ks = ks' := rising_extB h.1 h'.1 (fun s => by rw [h.2, h'.2])
theorem names_one (f : Fl) : Names [f] [f.name] := ⟨List.pairwise_singleton _ _, fun s => by simp [eq_comm]⟩

def sA : ByteArray := ⟨#[97]⟩
def sXY : ByteArray := ⟨#[120, 121]⟩
def sXYZ : ByteArray := ⟨#[120, 121, 122]⟩
theorem ex1 : (⟨100, []⟩ : Dk).app sA sXY = (0, ⟨100, [⟨sA, sXY, 0⟩]⟩) := by kernel_rfl
theorem ex2 : (⟨100, [⟨sA, sXY, 0⟩]⟩ : Dk).sync sA = ⟨100, [⟨sA, sXY, 2⟩]⟩ := by kernel_rfl
theorem ex3 : (⟨100, [⟨sA, sXY, 2⟩]⟩ : Dk).app sA ⟨#[122]⟩ = (0, ⟨100, [⟨sA, sXYZ, 2⟩]⟩) := by kernel_rfl
theorem ex4 : crashN [] [sA] [⟨sA, sXYZ, 2⟩] 1 = [⟨sA, sXY, 2⟩] := by kernel_rfl
theorem ex5 : crashN [5] [sA] [⟨sA, sXYZ, 2⟩] 1 = [⟨sA, sXYZ, 3⟩] := by kernel_rfl
theorem ex6 : readV ((⟨100, [⟨sA, sXY, 2⟩]⟩ : Dk).find sA) = .tuple #[.string sXY, .int .i64 0] := by kernel_rfl
theorem ex7 : readV ((⟨100, [⟨sA, sXYZ, 3⟩]⟩ : Dk).find sA) = .tuple #[.string sXYZ, .int .i64 0] := by kernel_rfl
end Go.Proofs.YthebmbhdlkldiaaGreatDoor.Dsk

namespace Go.Proofs.YthebmbhdlkldiaaGreatDoor.Dsk
open Go.RowKit Go.Bl

theorem app_room (d : Dk) (x s : ByteArray) : (d.app x s).2.room = d.room := by
  unfold Dk.app
  split
  · rfl
  · split
    · split
      · rfl
      · split <;> rfl
    · split <;> rfl
theorem app_err {d : Dk} {x s : ByteArray} (h : (d.app x s).1 ≠ 0) : (d.app x s).2 = d := by
  unfold Dk.app at h ⊢
  split
  · rfl
  · rename_i h1
    rw [if_neg h1] at h
    split
    · rename_i h2
      rw [h2] at h
      split
      · rfl
      · rename_i h3
        split
        · rfl
        · rename_i h4
          simp [h3, h4] at h
    · rename_i f h2
      rw [h2] at h
      split
      · rfl
      · rename_i h3
        simp [h3] at h
theorem app_used {d : Dk} (hn : (d.L.map Fl.name).Nodup) (x s : ByteArray) : (d.app x s).2.used ≤ d.used + s.size := by
  unfold Dk.app
  split
  · show d.used ≤ _; omega
  · split
    · split
      · show d.used ≤ _; omega
      · split
        · show d.used ≤ _; omega
        · show (total (d.L ++ [⟨x, s, 0⟩]) : Int) ≤ (total d.L : Int) + _
          rw [total_append]
          show ((total d.L + (s.size + 0) : Nat) : Int) ≤ _
          omega
    · rename_i f hf
      obtain ⟨hfL, rfl⟩ := find_some hf
      split
      · show d.used ≤ _; omega
      · show (total (updL f.name (growF s) d.L) : Int) ≤ (total d.L : Int) + _
        rw [total_grow s d.L f hn hfL]
        omega
theorem del_le (d : Dk) (x : ByteArray) : (d.del x).used ≤ d.used := by
  show (total (d.L.filter _) : Int) ≤ (total d.L : Int)
  have := total_filter_le (fun f => decide (f.name ≠ x)) d.L
  omega
theorem sync_used (d : Dk) (x : ByteArray) : (d.sync x).used = d.used := by
  show (total (updL x syncF d.L) : Int) = _
  rw [total_upd x syncF (fun _ => rfl) d.L]
  rfl
theorem move_used {d : Dk} (hn : (d.L.map Fl.name).Nodup) {f : Fl} (hf : f ∈ d.L) {y : ByteArray} (hy : f.name ≠ y) : (d.move f y).used = (d.del y).used := by
  have hfd : f ∈ (d.del y).L := List.mem_filter.2 ⟨hf, by simpa using hy⟩
  have hn2 : ((d.del y).L.map Fl.name).Nodup := hn.sublist (List.Sublist.map _ List.filter_sublist)
  have htot := total_del hn2 hfd
  show (total (((d.del y).del f.name).L ++ [{ f with name := y }]) : Int) = (total (d.del y).L : Int)
  rw [total_append, ← htot]
  show ((total ((d.del y).L.filter _) + (f.bytes.size + 0) : Nat) : Int) = _
  omega
theorem ren_room (d : Dk) (x y : ByteArray) : (d.ren x y).2.room = d.room := by
  unfold Dk.ren
  split
  · rfl
  · split
    · rfl
    · split <;> rfl
theorem ren_err {d : Dk} {x y : ByteArray} (h : (d.ren x y).1 ≠ 0) : (d.ren x y).2 = d := by
  unfold Dk.ren at h ⊢
  split
  · rfl
  · rename_i f h1
    rw [h1] at h
    split
    · rfl
    · rename_i h2
      split
      · rfl
      · rename_i h3
        simp [h2, h3] at h
theorem ren_used {d : Dk} (hn : (d.L.map Fl.name).Nodup) (x y : ByteArray) : (d.ren x y).2.used ≤ d.used := by
  unfold Dk.ren
  split
  · exact Int.le_refl _
  · rename_i f h1
    obtain ⟨hfL, rfl⟩ := find_some h1
    split
    · exact Int.le_refl _
    · split
      · exact Int.le_refl _
      · rename_i h3
        rw [move_used hn hfL h3]
        exact del_le d y

theorem crashN_ok {keep : List Int} {ks : List ByteArray} {L : List Fl} (h : ∀ f ∈ L, 0 ≤ f.syn ∧ f.syn ≤ f.bytes.size) : ∀ k, ∀ f ∈ crashN keep ks L k, 0 ≤ f.syn ∧ f.syn ≤ f.bytes.size
  | 0 => h
  | k + 1 => by
    intro f hf
    obtain ⟨q, hq, rfl⟩ := List.mem_map.1 (show f ∈ updL _ _ _ from hf)
    have hs := crashN_ok h k q hq
    by_cases e : q.name = (ks[k]?).getD ByteArray.empty
    · rw [if_pos e]
      have hn := keepOf_nonneg keep k
      have h1 := cutF_size hn hs
      have h2 := cutK_in hn hs
      show 0 ≤ cutK _ q ∧ cutK _ q ≤ _
      omega
    · rw [if_neg e]; exact hs
theorem crashN_le {keep : List Int} {ks : List ByteArray} {L : List Fl} (h : ∀ f ∈ L, 0 ≤ f.syn ∧ f.syn ≤ f.bytes.size) : ∀ k, total (crashN keep ks L k) ≤ total L
  | 0 => Nat.le_refl _
  | k + 1 => by
    refine Nat.le_trans (total_upd_le (x := (ks[k]?).getD ByteArray.empty) (g := cutF (keepOf keep k)) fun f hf => ?_) (crashN_le h k)
    have hs := crashN_ok (keep := keep) (ks := ks) h k f hf
    have hn := keepOf_nonneg keep k
    have h1 := cutF_size hn hs
    have h2 := cutK_in hn hs
    omega
/-- All that a disk has is synced. -/
def Whole (L : List Fl) : Prop := ∀ f ∈ L, f.syn = f.bytes.size
theorem crashN_whole {keep : List Int} {ks : List ByteArray} {L : List Fl} (h : ∀ f ∈ L, 0 ≤ f.syn ∧ f.syn ≤ f.bytes.size) : ∀ k, k ≤ ks.length → ∀ f ∈ crashN keep ks L k, f.name ∈ ks.take k → f.syn = f.bytes.size
  | 0, _ => fun f _ hm => by simp at hm
  | k + 1, hk => by
    intro f hf hm
    have hlt : k < ks.length := hk
    rw [crashN_succ keep L hlt] at hf
    obtain ⟨q, hq, rfl⟩ := List.mem_map.1 hf
    have hs := crashN_ok (keep := keep) (ks := ks) h k q hq
    by_cases e : q.name = ks[k]
    · rw [if_pos e]
      exact (cutF_size (keepOf_nonneg keep k) hs).symm
    · rw [if_neg e] at hm ⊢
      refine crashN_whole h k (by omega) q hq ?_
      rw [List.take_succ_eq_append_getElem hlt, List.mem_append, List.mem_singleton] at hm
      exact hm.resolve_right e
theorem crash_whole {keep : List Int} {ks : List ByteArray} {L : List Fl} (h : ∀ f ∈ L, 0 ≤ f.syn ∧ f.syn ≤ f.bytes.size) (hN : Names L ks) : Whole (crashN keep ks L ks.length) := fun f hf => by
  refine crashN_whole h ks.length (Nat.le_refl _) f hf ?_
  rw [List.take_length]
  have h1 : f.name ∈ (crashN keep ks L ks.length).map Fl.name := List.mem_map.2 ⟨f, hf, rfl⟩
  rw [crashN_names] at h1
  obtain ⟨q, hq, e⟩ := List.mem_map.1 h1
  exact (hN.2 _).2 ⟨q, hq, e⟩
theorem cutF_whole {n : Int} {f : Fl} (hn : 0 ≤ n) (h : f.syn = f.bytes.size) : cutF n f = f := by
  have hk : cutK n f = f.bytes.size := by unfold cutK gmin; omega
  unfold cutF
  rw [hk, Int.toNat_natCast]
  have : f.bytes.extract 0 f.bytes.size = f.bytes := ByteArray.extract_zero_size
  rw [this, ← h]
theorem updL_id {x : ByteArray} {g : Fl → Fl} {L : List Fl} (h : ∀ f ∈ L, g f = f) : updL x g L = L := by
  unfold updL
  conv => rhs; rw [← List.map_id L]
  refine List.map_congr_left fun q hq => ?_
  show (if q.name = x then g q else q) = q
  rw [h q hq]
  split <;> rfl
theorem crashN_again {keep : List Int} {ks : List ByteArray} {L : List Fl} (h : Whole L) : ∀ k, crashN keep ks L k = L
  | 0 => rfl
  | k + 1 => by
    show updL _ _ (crashN keep ks L k) = L
    rw [crashN_again h k]
    exact updL_id fun f hf => cutF_whole (keepOf_nonneg keep k) (h f hf)

theorem find_mem {d : Dk} (hn : (d.L.map Fl.name).Nodup) {f : Fl} (hf : f ∈ d.L) : d.find f.name = some f := by
  cases h : d.find f.name with
  | none => exact absurd rfl (find_none.1 h f hf)
  | some g =>
    obtain ⟨h1, h2⟩ := find_some h
    rw [nodup_at hn h1 hf h2]
theorem find_perm {r r' : Int} {L L' : List Fl} (h : L'.Perm L) (hn : (L.map Fl.name).Nodup) (x : ByteArray) : (⟨r, L'⟩ : Dk).find x = (⟨r', L⟩ : Dk).find x := by
  cases hf : (⟨r', L⟩ : Dk).find x with
  | none => exact find_none.2 fun f hf' => find_none.1 hf f (h.mem_iff.1 hf')
  | some f =>
    obtain ⟨h1, rfl⟩ := find_some hf
    exact find_mem (d := ⟨r, L'⟩) ((h.map Fl.name).nodup_iff.2 hn) (h.mem_iff.2 h1)
theorem Names.perm {L L' : List Fl} {ks : List ByteArray} (h : Names L ks) (hp : L'.Perm L) : Names L' ks := ⟨h.1, fun s => by rw [h.2]; exact ⟨fun ⟨f, hf, e⟩ => ⟨f, hp.mem_iff.2 hf, e⟩, fun ⟨f, hf, e⟩ => ⟨f, hp.mem_iff.1 hf, e⟩⟩⟩
end Go.Proofs.YthebmbhdlkldiaaGreatDoor.Dsk
