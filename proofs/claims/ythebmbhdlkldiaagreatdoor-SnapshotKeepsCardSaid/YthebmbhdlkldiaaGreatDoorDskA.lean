/- The disk: what a block of it holds; New, Used, Read, Synced, Sync, Delete. Under the stated premises on sizes. -/
import Derived.Test.YthebmbhdlkldiaaGreatDoorProg
import Derived.Test.YthebmbhdlkldiaaGreatDoorBlP
import Derived.Test.YthebmbhdlkldiaaGreatDoorBlD
import Derived.Lib.Hide
import Derived.Deep.RegionHeld3
import Derived.Deep.DrawnRows
import Derived.BigQuiet
namespace Go.Proofs.YthebmbhdlkldiaaGreatDoor.Dsk
open Go.RowKit Go.Bl
attribute [local go_sem ↓] Go.wp_at_zero Go.wp_at_succ

structure Fl where
  name : ByteArray
  bytes : ByteArray
  syn : Int
  deriving DecidableEq
def flc (f : Fl) : List Value := [.string f.bytes, .int .i64 f.syn]
/-- A disk: its room, and its files in some order. -/
structure Dk where
  room : Int
  L : List Fl
def total (L : List Fl) : Nat := (L.map fun f => f.bytes.size).sum
def Dk.used (d : Dk) : Int := total d.L
structure Dk.Ok (d : Dk) : Prop where
  room1 : 1 ≤ d.room
  room2 : d.room ≤ 1073741824
  used : (total d.L : Int) ≤ d.room
  len : d.L.length ≤ 40
  syn : ∀ f ∈ d.L, 0 ≤ f.syn ∧ f.syn ≤ f.bytes.size
  nms : ∀ f ∈ d.L, f.name.size ≤ 1000000
theorem total_mem {L : List Fl} {f : Fl} (h : f ∈ L) : f.bytes.size ≤ total L := by
  induction L with
  | nil => cases h
  | cons g L ih =>
    show _ ≤ ((g :: L).map _).sum
    rw [List.map_cons, List.sum_cons]
    rcases List.mem_cons.1 h with rfl | h
    · omega
    · have := ih h
      unfold total at this
      omega
def Dk.find (d : Dk) (x : ByteArray) : Option Fl := d.L.find? fun f => decide (f.name = x)

def strLit (s : ByteArray) : Lit := .string s.data.toList
theorem strLit_inj (a b : ByteArray) (h : strLit a = strLit b) : a = b := by
  obtain ⟨⟨x⟩⟩ := a
  obtain ⟨⟨y⟩⟩ := b
  simpa [strLit] using h
theorem lawS : Maps.Keyed Tryz.prog 9 := Maps.string_keyed Tryz.underlying9
theorem keyS {s : ByteArray} (h : s.size ≤ maxLen) : keyOf Tryz.prog 9 (.string s) = some (strLit s) := WideMaps.keyOf_string_mk Tryz.underlying9 h
theorem zeroPf (w : World) : (zeroValue 134).run Tryz.prog w = .ok (.pointer none) w := by kernel_rfl
def ptr (b : Nat) : Value := .pointer (some ⟨b, 0, none⟩)
def rowsD (R : List (Nat × Fl)) : List (ByteArray × Value) := R.map fun r => (r.2.name, ptr r.1)

/-- Block p of w is a disk of this room, which says that u bytes are used; R: its files and the blocks where they lie. -/
structure DskR (w : World) (p : Nat) (room u : Int) (L : List Fl) (F : Nat → Prop) (bm : Nat) (R : List (Nat × Fl)) : Prop where
  blk : w.heap[p]? = some (.cells #[.int .i64 room, .int .i64 u, .map (some bm)] 129 (0, 0))
  rL : R.map Prod.snd = L
  map : MapL w Tryz.prog 9 strLit bm (rowsD R)
  rows : ∀ r ∈ R, w.heap[r.1]? = some (.cells (flc r.2).toArray 137 (0, 0))
  dist : (p :: R.map Prod.fst).Nodup
  fp : F p
  fm : F bm
  fr : ∀ r ∈ R, F r.1
  lt : ∀ k, F k → k < w.heap.size
/-- .. and what it says is so. -/
structure DskIn (w : World) (p : Nat) (d : Dk) (F : Nat → Prop) (bm : Nat) (R : List (Nat × Fl)) : Prop extends DskR w p d.room d.used d.L F bm R where
  ok : d.Ok
def DskAt (w : World) (p : Nat) (d : Dk) (F : Nat → Prop) : Prop := ∃ bm R, DskIn w p d F bm R

section
variable {w w' : World} {p : Nat} {d : Dk} {room u : Int} {L : List Fl} {F G : Nat → Prop} {bm : Nat} {R : List (Nat × Fl)}
theorem DskR.keep (h : DskR w p room u L F bm R) (hk : Keeps G w w') (hd : ∀ k, F k → ¬ G k) : DskR w' p room u L F bm R :=
  ⟨hk.grownTo h.blk (hd _ h.fp), h.rL, h.map.keep hk (hd _ h.fm), fun r hr => hk.grownTo (h.rows r hr) (hd _ (h.fr r hr)), h.dist, h.fp, h.fm, h.fr, fun k hF => Nat.lt_of_lt_of_le (h.lt k hF) hk.size⟩
theorem DskIn.keep (h : DskIn w p d F bm R) (hk : Keeps G w w') (hd : ∀ k, F k → ¬ G k) : DskIn w' p d F bm R := ⟨h.toDskR.keep hk hd, h.ok⟩
theorem DskAt.keep (h : DskAt w p d F) (hk : Keeps G w w') (hd : ∀ k, F k → ¬ G k) : DskAt w' p d F := by
  obtain ⟨bm, R, h⟩ := h
  exact ⟨bm, R, h.keep hk hd⟩
theorem DskAt.fresh (h : DskAt w p d F) (hk : Below w.heap.size w w') : DskAt w' p d F := h.keep (Keeps.of_fresh hk fun _ => False) (fun _ _ => id)
theorem DskR.mono {F' : Nat → Prop} (h : DskR w p room u L F bm R) (hF : ∀ k, F k → F' k) (hl : ∀ k, F' k → k < w.heap.size) : DskR w p room u L F' bm R :=
  ⟨h.blk, h.rL, h.map, h.rows, h.dist, hF _ h.fp, hF _ h.fm, fun r hr => hF _ (h.fr r hr), hl⟩
theorem DskAt.mono {F' : Nat → Prop} (h : DskAt w p d F) (hF : ∀ k, F k → F' k) (hl : ∀ k, F' k → k < w.heap.size) : DskAt w p d F' := by
  obtain ⟨bm, R, h⟩ := h
  exact ⟨bm, R, h.toDskR.mono hF hl, h.ok⟩
theorem DskAt.ok (h : DskAt w p d F) : d.Ok := by obtain ⟨bm, R, h⟩ := h; exact h.ok
theorem DskAt.lt (h : DskAt w p d F) : ∀ k, F k → k < w.heap.size := by obtain ⟨bm, R, h⟩ := h; exact h.lt
theorem DskAt.fp (h : DskAt w p d F) : F p := by obtain ⟨bm, R, h⟩ := h; exact h.fp
theorem DskR.c0 (h : DskR w p room u L F bm R) : w.cell? ⟨p, 0, none⟩ = some (.int .i64 room) := cell_of_row w p 0 _ _ _ h.blk
theorem DskR.c1 (h : DskR w p room u L F bm R) : w.cell? ⟨p, 1, none⟩ = some (.int .i64 u) := cell_of_row w p 1 _ _ _ h.blk
theorem DskR.c2 (h : DskR w p room u L F bm R) : w.cell? ⟨p, 2, none⟩ = some (.map (some bm)) := cell_of_row w p 2 _ _ _ h.blk
theorem rowsD_len (R : List (Nat × Fl)) : (rowsD R).length = R.length := by simp [rowsD]
theorem DskR.len (h : DskR w p room u L F bm R) : R.length = L.length := by rw [← h.rL, List.length_map]
theorem DskR.maplen (h : DskR w p room u L F bm R) (ty : TypeId) : (Builtin.len_ #[127] ty #[.map (some bm)]).run Tryz.prog w = .ok (.int .i64 L.length) w := by
  rw [h.map.len Tryz.underlying127 ty, rowsD_len, h.len]
theorem DskR.nodup (h : DskR w p room u L F bm R) : (L.map Fl.name).Nodup := by
  have h1 := h.map.1
  rw [← h.rL, List.map_map]
  simpa [rowsD, Function.comp_def] using h1
theorem DskR.row (h : DskR w p room u L F bm R) {f : Fl} (hf : f ∈ L) : ∃ b, (b, f) ∈ R := by
  rw [← h.rL] at hf
  obtain ⟨r, hr, rfl⟩ := List.mem_map.1 hf
  exact ⟨r.1, hr⟩
theorem DskR.mem (h : DskR w p room u L F bm R) {r : Nat × Fl} (hr : r ∈ R) : r.2 ∈ L := by
  rw [← h.rL]
  exact List.mem_map.2 ⟨r, hr, rfl⟩
theorem getD_none {x : ByteArray} (hn : ∀ r ∈ R, r.2.name ≠ x) : getL (rowsD R) x = none := getL_none.2 fun q hq => by
  obtain ⟨r, hr, rfl⟩ := List.mem_map.1 hq
  exact hn r hr
theorem DskR.lookY (h : DskR w p room u L F bm R) {b : Nat} {f : Fl} (hr : (b, f) ∈ R) (hx : f.name.size ≤ maxLen) : (Instr.lookup 127 (.map (some bm)) (.string f.name) false).run Tryz.prog w = .ok (.pointer (some ⟨b, 0, none⟩)) w := by
  rw [h.map.look lawS Tryz.underlying127 zeroPf (keyS hx), getL_of_mem h.map.1 (show (f.name, ptr b) ∈ rowsD R from List.mem_map.2 ⟨(b, f), hr, rfl⟩)]
  rfl
theorem DskR.lookN (h : DskR w p room u L F bm R) {x : ByteArray} (hx : x.size ≤ maxLen) (hn : ∀ f ∈ L, f.name ≠ x) : (Instr.lookup 127 (.map (some bm)) (.string x) false).run Tryz.prog w = .ok (.pointer none) w := by
  rw [h.map.look lawS Tryz.underlying127 zeroPf (keyS hx), getD_none (fun r hr => hn r.2 (h.mem hr))]
  rfl
theorem DskR.p_ne (h : DskR w p room u L F bm R) : p ≠ bm := fun e => h.map.not_cells (e ▸ h.blk)
theorem DskR.r_ne (h : DskR w p room u L F bm R) {r : Nat × Fl} (hr : r ∈ R) : r.1 ≠ bm := fun e => h.map.not_cells (e ▸ h.rows r hr)
theorem DskR.p_row (h : DskR w p room u L F bm R) {r : Nat × Fl} (hr : r ∈ R) : r.1 ≠ p := fun e => (List.nodup_cons.1 h.dist).1 (e ▸ List.mem_map.2 ⟨r, hr, rfl⟩)
end

theorem find_none {d : Dk} {x : ByteArray} : d.find x = none ↔ ∀ f ∈ d.L, f.name ≠ x := by
  unfold Dk.find
  rw [List.find?_eq_none]
  simp
theorem find_some {d : Dk} {x : ByteArray} {f : Fl} (h : d.find x = some f) : f ∈ d.L ∧ f.name = x := by
  have h1 := List.mem_of_find?_eq_some h
  have h2 := List.find?_some h
  exact ⟨h1, by simpa using h2⟩

set_option maxHeartbeats 400000 in
theorem new_ok (w : World) (room : Int) (h1 : 1 ≤ room) (h2 : room ≤ 1073741824) : Calls Tryz.prog 19 #[.int .i64 room] w fun e w' => e = .returned (.tuple #[ptr (w.heap.size + 1), .int .i64 0]) ∧
    DskAt w' (w.heap.size + 1) ⟨room, []⟩ (fun k => w.heap.size ≤ k ∧ k < w'.heap.size) ∧ Below w.heap.size w w' := by
  have hmm := @run_makeMap Tryz.prog
  have d1 : decide (room < 1) = false := by simp; omega
  have d2 : decide ((1073741824 : Int) < room) = false := by simp; omega
  go_enter Tryz.func19, Tryz.ntmps19
  go_wp2
  go_ret2
  refine ⟨rfl, ⟨w.heap.size, [], ?_⟩, ((Below.refl _ _).alloc (Nat.le_refl _) _).alloc (by simp) _⟩
  refine ⟨⟨?_, rfl, ?_, by simp, by simp, by simp, by simp; omega, by simp, fun k hk => hk.2⟩, ⟨h1, h2, by show (0 : Int) ≤ room; omega, by simp, by simp, by simp⟩⟩
  · have := heap_alloc_new (w.alloc (.map #[] 0)) (.cells #[.int .i64 room, .int .i64 0, .map (some w.heap.size)] 129)
    simpa [Dk.used, total] using this
  · have := MapL.made w Tryz.prog 9 strLit
    simpa [rowsD] using this.keep (G := fun _ => False) ((Keeps.refl _ _).alloc _) id
theorem new_bad (w : World) (room : Int) (h : room < 1 ∨ 1073741824 < room) : Calls Tryz.prog 19 #[.int .i64 room] w fun e w' => e = .returned (.tuple #[.pointer none, .int .i64 1]) ∧ w = w' := by
  by_cases h1 : room < 1
  · have d1 : decide (room < 1) = true := by simp; omega
    go_enter Tryz.func19, Tryz.ntmps19
    go_wp2
    go_ret2
    exact ⟨rfl, rfl⟩
  · have d1 : decide (room < 1) = false := by simp; omega
    have d2 : decide ((1073741824 : Int) < room) = true := by simp; omega
    clear h
    go_enter Tryz.func19, Tryz.ntmps19
    go_wp2
    go_ret2
    exact ⟨rfl, rfl⟩

theorem used_any (w : World) (p : Nat) (d : Dk) (F : Nat → Prop) (h : DskAt w p d F) : Calls Tryz.prog 28 #[.pointer (some ⟨p, 0, none⟩)] w fun e w' => e = .returned (.int .i64 d.used) ∧ w = w' := by
  obtain ⟨bm, R, h⟩ := h
  have c1 := h.c1
  clear h
  go_enter Tryz.func28, Tryz.ntmps28
  go_wp2
  go_ret
  exact ⟨rfl, rfl⟩

def readV (o : Option Fl) : Value := match o with | none => .tuple #[.string ⟨#[]⟩, .int .i64 6] | some f => .tuple #[.string f.bytes, .int .i64 0]
set_option maxHeartbeats 400000 in
theorem read_any (w : World) (p : Nat) (d : Dk) (F : Nat → Prop) (h : DskAt w p d F) (x : ByteArray) (hx : x.size ≤ maxLen) : Calls Tryz.prog 80 #[.pointer (some ⟨p, 0, none⟩), .string x] w fun e w' => e = .returned (readV (d.find x)) ∧ w = w' := by
  obtain ⟨bm, R, h⟩ := h
  have c2 := h.c2
  cases hf : d.find x with
  | none =>
    have hl := h.lookN hx (find_none.1 hf)
    clear h hf
    go_enter Tryz.func80, Tryz.ntmps80
    go_wp2
    go_ret2
    exact ⟨rfl, rfl⟩
  | some f =>
    obtain ⟨h1, rfl⟩ := find_some hf
    obtain ⟨b, hb⟩ := h.row h1
    have hl := h.lookY hb hx
    have b0 : w.cell? ⟨b, 0, none⟩ = some (.string f.bytes) := cell_of_row w b 0 _ _ _ (h.rows _ hb)
    clear h hf
    go_enter Tryz.func80, Tryz.ntmps80
    go_wp2
    go_ret2
    exact ⟨rfl, rfl⟩
/-- One file, turned. -/
def updL (x : ByteArray) (g : Fl → Fl) (L : List Fl) : List Fl := L.map fun f => if f.name = x then g f else f
theorem nodup_at {α β : Type} {f : α → β} {l : List α} (h : (l.map f).Nodup) {x y : α} (hx : x ∈ l) (hy : y ∈ l) (e : f x = f y) : x = y := by
  obtain ⟨i, hi, ei⟩ := List.mem_iff_getElem.1 hx
  obtain ⟨j, hj, ej⟩ := List.mem_iff_getElem.1 hy
  have hpw := List.pairwise_map.1 h
  rcases Nat.lt_trichotomy i j with hij | hij | hij
  · exact absurd (by rw [ei, ej]; exact e) (List.pairwise_iff_getElem.1 hpw i j hi hj hij)
  · subst hij; exact ei.symm.trans ej
  · exact absurd (by rw [ei, ej]; exact e.symm) (List.pairwise_iff_getElem.1 hpw j i hj hi hij)
theorem DskR.uniq {w : World} {p : Nat} {room u : Int} {L : List Fl} {F : Nat → Prop} {bm : Nat} {R : List (Nat × Fl)} (h : DskR w p room u L F bm R) {r q : Nat × Fl} (hr : r ∈ R) (hq : q ∈ R) (e : r.2.name = q.2.name) : r = q := by
  have h1 := h.map.1
  have : (R.map fun r => r.2.name).Nodup := by simpa [rowsD, Function.comp_def] using h1
  exact nodup_at this hr hq e
/-- What stores into one file's block, and into the disk's own, make of a disk. -/
theorem DskR.upd {w w' : World} {p : Nat} {room u u' : Int} {L : List Fl} {F : Nat → Prop} {bm : Nat} {R : List (Nat × Fl)} (h : DskR w p room u L F bm R) {b : Nat} {f : Fl} (hb : (b, f) ∈ R) {g : Fl → Fl} (hg : ∀ f, (g f).name = f.name)
    (hk : Keeps (fun k => k = b ∨ k = p) w w') (hblk : w'.heap[b]? = some (.cells (flc (g f)).toArray 137 (0, 0))) (hp : w'.heap[p]? = some (.cells #[.int .i64 room, .int .i64 u', .map (some bm)] 129 (0, 0))) :
    DskR w' p room u' (updL f.name g L) F bm (R.map fun r => if r.2.name = f.name then (r.1, g r.2) else r) := by
  have hrows : rowsD (R.map fun r => if r.2.name = f.name then (r.1, g r.2) else r) = rowsD R := by
    unfold rowsD
    rw [List.map_map]
    refine List.map_congr_left fun r _ => ?_
    show ((if r.2.name = f.name then (r.1, g r.2) else r).2.name, ptr (if r.2.name = f.name then (r.1, g r.2) else r).1) = _
    split
    · rw [hg]
    · rfl
  have hfst : (R.map fun r => if r.2.name = f.name then (r.1, g r.2) else r).map Prod.fst = R.map Prod.fst := by
    rw [List.map_map]
    refine List.map_congr_left fun r _ => ?_
    show (if r.2.name = f.name then (r.1, g r.2) else r).1 = r.1
    split <;> rfl
  refine ⟨hp, ?_, by rw [hrows]; exact h.map.keep hk (fun e => e.elim (fun e => h.r_ne hb e.symm) (fun e => h.p_ne e.symm)), ?_, by rw [hfst]; exact h.dist, h.fp, h.fm, ?_, fun k hF => Nat.lt_of_lt_of_le (h.lt k hF) hk.size⟩
  · show _ = updL f.name g L
    unfold updL
    rw [← h.rL, List.map_map, List.map_map]
    refine List.map_congr_left fun r _ => ?_
    show (if r.2.name = f.name then (r.1, g r.2) else r).2 = if r.2.name = f.name then g r.2 else r.2
    split <;> rfl
  · intro r' hr'
    obtain ⟨r, hr, rfl⟩ := List.mem_map.1 hr'
    by_cases e : r.2.name = f.name
    · rw [if_pos e]
      obtain rfl := h.uniq hr hb e
      exact hblk
    · rw [if_neg e]
      refine hk.grownTo (h.rows r hr) (fun e2 => ?_)
      rcases e2 with e2 | e2
      · exact e (by rw [nodup_at (List.nodup_cons.1 h.dist).2 hr hb e2])
      · exact h.p_row hr e2
  · intro r' hr'
    obtain ⟨r, hr, rfl⟩ := List.mem_map.1 hr'
    have := h.fr r hr
    split
    · exact this
    · exact this
theorem Dk.Ok.upd {d : Dk} (h : d.Ok) (hn : (d.L.map Fl.name).Nodup) {f : Fl} (hf : f ∈ d.L) {g : Fl → Fl} (hg : ∀ f, (g f).name = f.name) (hs : 0 ≤ (g f).syn ∧ (g f).syn ≤ (g f).bytes.size) (ht : (total (updL f.name g d.L) : Int) ≤ d.room) :
    (⟨d.room, updL f.name g d.L⟩ : Dk).Ok := by
  refine ⟨h.room1, h.room2, ht, by show (updL f.name g d.L).length ≤ 40; unfold updL; rw [List.length_map]; exact h.len, fun q hq => ?_, fun q hq => ?_⟩
  · obtain ⟨q0, hq0, rfl⟩ := List.mem_map.1 hq
    by_cases e : q0.name = f.name
    · rw [if_pos e, nodup_at hn hq0 hf e]
      exact hs
    · rw [if_neg e]; exact h.syn q0 hq0
  · obtain ⟨q0, hq0, rfl⟩ := List.mem_map.1 hq
    by_cases e : q0.name = f.name
    · rw [if_pos e, hg]; exact h.nms q0 hq0
    · rw [if_neg e]; exact h.nms q0 hq0
end Go.Proofs.YthebmbhdlkldiaaGreatDoor.Dsk
