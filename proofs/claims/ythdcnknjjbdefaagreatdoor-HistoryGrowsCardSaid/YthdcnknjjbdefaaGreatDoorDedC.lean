/- Dedup: what a put makes of a table's blocks. -/
import Derived.Test.YthdcnknjjbdefaaGreatDoorProg
import Derived.Test.YthdcnknjjbdefaaGreatDoorBlP
import Derived.Test.YthdcnknjjbdefaaGreatDoorBlB
import Derived.Lib.Hide
import Derived.Deep.RegionHeld3
import Derived.Deep.DrawnRows
import Derived.Test.YthdcnknjjbdefaaGreatDoorLay
import Derived.Test.YthdcnknjjbdefaaGreatDoorBlI
/- Dedup: what was put, as a list; what a table's blocks hold; New, Look. Under the stated premises on sizes. -/
namespace Go.Proofs.YthdcnknjjbdefaaGreatDoor.Ded
open Go.RowKit Go.Bl
attribute [local go_sem ↓] Go.wp_at_zero Go.wp_at_succ

structure Oc where
  code : Int
  pos : Int
  first : Int
  ver : Int
  deriving DecidableEq
def oc0 : Oc := ⟨0, 0, 0, 0⟩
def occ (o : Oc) : List Value := [.int .i64 o.code, .int .i64 o.pos, .int .i64 o.first, .int .i64 o.ver]
def ocv (o : Oc) : Value := .agg #[.int .i64 o.code, .int .i64 o.pos, .int .i64 o.first, .int .i64 o.ver]
structure En where
  ses : Int
  seq : Int
  o : Oc
/-- The highest number of a session. -/
def highL (L : List En) (x : Int) : Int := L.foldl (fun h e => if e.ses = x then max h e.seq else h) 0
/-- What was put. -/
def findL (L : List En) (x y : Int) : Option Oc := (L.find? fun e => decide (e.ses = x) && decide (e.seq = y)).map En.o
def lookL (L : List En) (x y : Int) : Oc × Int := if y < 1 ∨ y ≤ highL L x - 8 then (oc0, 2) else match findL L x y with | none => (oc0, 0) | some o => (o, 1)
structure OkL (L : List En) : Prop where
  ses : ∀ e ∈ L, 1 ≤ e.ses ∧ e.ses ≤ 9223372036854775807
  seq : ∀ e ∈ L, 1 ≤ e.seq ∧ e.seq ≤ 9223372036854775807

theorem highL_append (L : List En) (e : En) (x : Int) : highL (L ++ [e]) x = if e.ses = x then max (highL L x) e.seq else highL L x := by
  simp [highL, List.foldl_append]
theorem findL_append (L : List En) (e : En) (x y : Int) : findL (L ++ [e]) x y = (findL L x y).or (if e.ses = x ∧ e.seq = y then some e.o else none) := by
  unfold findL
  rw [List.find?_append]
  cases h : L.find? fun e => decide (e.ses = x) && decide (e.seq = y) with
  | some z => simp
  | none =>
    by_cases he : e.ses = x ∧ e.seq = y
    · simp [he]
    · simp only [Option.map_none, Option.none_or, if_neg he, List.find?_cons]
      rw [show (decide (e.ses = x) && decide (e.seq = y)) = false by simpa using he]
      rfl
theorem highL_in {L : List En} (h : OkL L) (x : Int) : 0 ≤ highL L x ∧ highL L x ≤ 9223372036854775807 := by
  have : ∀ (L : List En) (a : Int), (∀ e ∈ L, 1 ≤ e.seq ∧ e.seq ≤ 9223372036854775807) → 0 ≤ a ∧ a ≤ 9223372036854775807 → 0 ≤ L.foldl (fun h e => if e.ses = x then max h e.seq else h) a ∧ L.foldl (fun h e => if e.ses = x then max h e.seq else h) a ≤ 9223372036854775807 := by
    intro L
    induction L with
    | nil => intro a _ h; exact h
    | cons e L ih =>
      intro a hL ha
      have he := hL e List.mem_cons_self
      refine ih _ (fun e he => hL e (List.mem_cons_of_mem _ he)) ?_
      show 0 ≤ (if e.ses = x then max a e.seq else a) ∧ (if e.ses = x then max a e.seq else a) ≤ _
      split <;> omega
  exact this L 0 h.seq (by omega)
theorem highL_none {L : List En} {x : Int} (h : ∀ e ∈ L, e.ses ≠ x) : highL L x = 0 := by
  unfold highL
  induction L with
  | nil => rfl
  | cons e L ih =>
    rw [List.foldl_cons, if_neg (h e List.mem_cons_self)]
    exact ih fun e he => h e (List.mem_cons_of_mem _ he)
theorem findL_none {L : List En} {x : Int} (h : ∀ e ∈ L, e.ses ≠ x) (y : Int) : findL L x y = none := by
  unfold findL
  rw [Option.map_eq_none_iff, List.find?_eq_none]
  intro e he
  simp [h e he]

def intLit (n : Int) : Lit := .int .i64 n
theorem intLit_inj (a b : Int) (h : intLit a = intLit b) : a = b := by simpa [intLit] using h
theorem lawI : Maps.Keyed Tryz.prog 3 := Maps.int_keyed Tryz.underlying3
def i64 (n : Int) : Prop := -9223372036854775808 ≤ n ∧ n ≤ 9223372036854775807
theorem i64_wf {n : Int} (h : i64 n) : (Lit.int .i64 n).wf = true := by
  have h1 : IntKind.i64.min = -9223372036854775808 := rfl
  have h2 : IntKind.i64.max = 9223372036854775807 := rfl
  simp only [Lit.wf, h1, h2, Bool.and_eq_true, decide_eq_true_eq]
  exact h
theorem keyI {n : Int} (h : i64 n) : keyOf Tryz.prog 3 (.int .i64 n) = some (intLit n) := Maps.keyOf_int_mk Tryz.underlying3 (i64_wf h)
theorem zeroPs (w : World) : (zeroValue 135).run Tryz.prog w = .ok (.pointer none) w := by kernel_rfl
theorem zeroPo (w : World) : (zeroValue 140).run Tryz.prog w = .ok (.pointer none) w := by kernel_rfl
def ptr (b : Nat) : Value := .pointer (some ⟨b, 0, none⟩)

/-- A session's row: its number, its block, its map's, its outcomes' numbers and blocks. -/
structure SRow where
  n : Int
  b : Nat
  mo : Nat
  O : List (Int × Nat)
def rowsO (O : List (Int × Nat)) : List (Int × Value) := O.map fun q => (q.1, ptr q.2)
def rowsS (R : List SRow) : List (Int × Value) := R.map fun r => (r.n, ptr r.b)
structure SesIn (w : World) (L : List En) (r : SRow) : Prop where
  blk : w.heap[r.b]? = some (.cells #[.int .i64 (highL L r.n), .map (some r.mo)] 138 (0, 0))
  map : MapL w Tryz.prog 3 intLit r.mo (rowsO r.O)
  out : ∀ q ∈ r.O, highL L r.n - 8 < q.1 ∧ ∃ o, findL L r.n q.1 = some o ∧ w.heap[q.2]? = some (.cells (occ o).toArray 34 (0, 0))
  all : ∀ y o, highL L r.n - 8 < y → findL L r.n y = some o → ∃ q ∈ r.O, q.1 = y
  olen : r.O.length ≤ L.length
/-- Block p of w is a table of what was put; its blocks are in F, those that are written in G. -/
structure TabIn (w : World) (p : Nat) (L : List En) (F G : Nat → Prop) (bm : Nat) (R : List SRow) : Prop where
  blk : w.heap[p]? = some (.cells #[.map (some bm)] 130 (0, 0))
  map : MapL w Tryz.prog 3 intLit bm (rowsS R)
  ses : ∀ r ∈ R, SesIn w L r
  mem : ∀ e ∈ L, ∃ r ∈ R, r.n = e.ses
  dist : (R.map SRow.b).Nodup
  dism : (bm :: R.map SRow.mo).Nodup
  fp : F p
  gp : ¬ G p
  gm : G bm
  gb : ∀ r ∈ R, G r.b ∧ G r.mo
  fo : ∀ r ∈ R, ∀ q ∈ r.O, F q.2 ∧ ¬ G q.2
  gf : ∀ k, G k → F k
  lt : ∀ k, F k → k < w.heap.size
  ok : OkL L
def TabAt (w : World) (p : Nat) (L : List En) (F G : Nat → Prop) : Prop := ∃ bm R, TabIn w p L F G bm R ∧ R.length ≤ L.length ∧ ∀ r ∈ R, ∃ e ∈ L, e.ses = r.n

section
variable {w w' : World} {p : Nat} {L : List En} {F G H : Nat → Prop} {bm : Nat} {R : List SRow} {r : SRow}
theorem SesIn.keep (h : SesIn w L r) (hk : Keeps H w w') (h1 : ¬ H r.b) (h2 : ¬ H r.mo) (h3 : ∀ q ∈ r.O, ¬ H q.2) : SesIn w' L r :=
  ⟨hk.grownTo h.blk h1, h.map.keep hk h2, fun q hq => by obtain ⟨a, o, b, c⟩ := h.out q hq; exact ⟨a, o, b, hk.grownTo c (h3 q hq)⟩, h.all, h.olen⟩
theorem TabIn.keep (h : TabIn w p L F G bm R) (hk : Keeps H w w') (hd : ∀ k, F k → ¬ H k) : TabIn w' p L F G bm R :=
  ⟨hk.grownTo h.blk (hd _ h.fp), h.map.keep hk (hd _ (h.gf _ h.gm)), fun r hr => (h.ses r hr).keep hk (hd _ (h.gf _ (h.gb r hr).1)) (hd _ (h.gf _ (h.gb r hr).2)) (fun q hq => hd _ (h.fo r hr q hq).1),
   h.mem, h.dist, h.dism, h.fp, h.gp, h.gm, h.gb, h.fo, h.gf, fun k hF => Nat.lt_of_lt_of_le (h.lt k hF) hk.size, h.ok⟩
theorem TabAt.keep (h : TabAt w p L F G) (hk : Keeps H w w') (hd : ∀ k, F k → ¬ H k) : TabAt w' p L F G := by
  obtain ⟨bm, R, h, h2⟩ := h
  exact ⟨bm, R, h.keep hk hd, h2⟩
theorem TabAt.fresh (h : TabAt w p L F G) (hk : Below w.heap.size w w') : TabAt w' p L F G := h.keep (Keeps.of_fresh hk fun _ => False) (fun _ _ => id)
theorem TabIn.c0 (h : TabIn w p L F G bm R) : w.cell? ⟨p, 0, none⟩ = some (.map (some bm)) := cell_of_row w p 0 _ _ _ h.blk
theorem TabIn.row (h : TabIn w p L F G bm R) (hr : r ∈ R) : getL (rowsS R) r.n = some (ptr r.b) := getL_of_mem h.map.1 (List.mem_map.2 ⟨r, hr, rfl⟩)
theorem TabIn.lookS (h : TabIn w p L F G bm R) (hr : r ∈ R) (hx : i64 r.n) : (Instr.lookup 128 (.map (some bm)) (.int .i64 r.n) false).run Tryz.prog w = .ok (.pointer (some ⟨r.b, 0, none⟩)) w := by
  rw [h.map.look lawI Tryz.underlying128 zeroPs (keyI hx), h.row hr]
  rfl
theorem getS_none {x : Int} (hn : ∀ r ∈ R, r.n ≠ x) : getL (rowsS R) x = none := getL_none.2 fun q hq => by
  obtain ⟨r, hr, rfl⟩ := List.mem_map.1 hq
  exact hn r hr
theorem TabIn.lookN (h : TabIn w p L F G bm R) {x : Int} (hn : ∀ r ∈ R, r.n ≠ x) (hx : i64 x) : (Instr.lookup 128 (.map (some bm)) (.int .i64 x) false).run Tryz.prog w = .ok (.pointer none) w := by
  rw [h.map.look lawI Tryz.underlying128 zeroPs (keyI hx), getS_none hn]
  rfl
theorem SesIn.c0 (h : SesIn w L r) : w.cell? ⟨r.b, 0, none⟩ = some (.int .i64 (highL L r.n)) := cell_of_row w r.b 0 _ _ _ h.blk
theorem SesIn.c1 (h : SesIn w L r) : w.cell? ⟨r.b, 1, none⟩ = some (.map (some r.mo)) := cell_of_row w r.b 1 _ _ _ h.blk
theorem SesIn.lookY (h : SesIn w L r) {q : Int × Nat} (hq : q ∈ r.O) (hx : i64 q.1) : (Instr.lookup 136 (.map (some r.mo)) (.int .i64 q.1) false).run Tryz.prog w = .ok (.pointer (some ⟨q.2, 0, none⟩)) w := by
  rw [h.map.look lawI Tryz.underlying136 zeroPo (keyI hx), getL_of_mem h.map.1 (show (q.1, ptr q.2) ∈ rowsO r.O from List.mem_map.2 ⟨q, hq, rfl⟩)]
  rfl
theorem getO_none {O : List (Int × Nat)} {x : Int} (hn : ∀ q ∈ O, q.1 ≠ x) : getL (rowsO O) x = none := getL_none.2 fun q hq => by
  obtain ⟨r, hr, rfl⟩ := List.mem_map.1 hq
  exact hn r hr
theorem SesIn.lookN (h : SesIn w L r) {x : Int} (hn : ∀ q ∈ r.O, q.1 ≠ x) (hx : i64 x) : (Instr.lookup 136 (.map (some r.mo)) (.int .i64 x) false).run Tryz.prog w = .ok (.pointer none) w := by
  rw [h.map.look lawI Tryz.underlying136 zeroPo (keyI hx), getO_none hn]
  rfl
theorem TabIn.no_ses (h : TabIn w p L F G bm R) {x : Int} (hn : ∀ r ∈ R, r.n ≠ x) : ∀ e ∈ L, e.ses ≠ x := fun e he q => by
  obtain ⟨r, hr, hq⟩ := h.mem e he
  exact hn r hr (hq.trans q)
end

set_option maxHeartbeats 400000 in
theorem new_any (w : World) : Calls Tryz.prog 60 #[] w fun e w' => e = .returned (ptr (w.heap.size + 1)) ∧ Below w.heap.size w w' ∧
    TabAt w' (w.heap.size + 1) [] (fun k => k = w.heap.size ∨ k = w.heap.size + 1) (fun k => k = w.heap.size) := by
  have hmm := @run_makeMap Tryz.prog
  go_enter Tryz.func60, Tryz.ntmps60
  go_wp2
  go_ret
  refine ⟨rfl, ((Below.refl _ _).alloc (Nat.le_refl _) _).alloc (by simp) _, w.heap.size, [], ?_, by simp, by simp⟩
  refine ⟨?_, ?_, by simp, by simp, by simp, by simp, .inr rfl, by simp, rfl, by simp, by simp, fun k hk => .inl hk, by simp; omega, ⟨by simp, by simp⟩⟩
  · have := heap_alloc_new (w.alloc (.map #[] 0)) (.cells #[.map (some w.heap.size)] 130)
    simpa using this
  · have := MapL.made w Tryz.prog 3 intLit
    simpa [rowsS] using this.keep (G := fun _ => False) ((Keeps.refl _ _).alloc _) id

theorem lookL_old {L : List En} {x y : Int} (h : y < 1 ∨ y ≤ highL L x - 8) : lookL L x y = (oc0, 2) := if_pos h
theorem lookL_fresh {L : List En} {x y : Int} (h : ¬ (y < 1 ∨ y ≤ highL L x - 8)) (hf : findL L x y = none) : lookL L x y = (oc0, 0) := by
  unfold lookL
  rw [if_neg h, hf]
theorem lookL_known {L : List En} {x y : Int} {o : Oc} (h : ¬ (y < 1 ∨ y ≤ highL L x - 8)) (hf : findL L x y = some o) : lookL L x y = (o, 1) := by
  unfold lookL
  rw [if_neg h, hf]

set_option maxHeartbeats 1000000 in
theorem look_any (w : World) (p : Nat) (L : List En) (F G : Nat → Prop) (h : TabAt w p L F G) (x y : Int) (hx : i64 x) (hy : i64 y) :
    Calls Tryz.prog 64 #[.pointer (some ⟨p, 0, none⟩), .int .i64 x, .int .i64 y] w fun e w' => e = .returned (.tuple #[ocv (lookL L x y).1, .int .i64 (lookL L x y).2]) ∧ Below w.heap.size w w' := by
  obtain ⟨bm, R, h, -⟩ := h
  have h' := h.keep ((Keeps.refl (fun _ => False) w).alloc (.cells #[.int .i64 0, .int .i64 0, .int .i64 0, .int .i64 0] 34)) (fun _ _ => id)
  have c0 := h.c0
  have hp := h.lt p h.fp
  have hhi := highL_in h.ok x
  by_cases hrow : ∃ r ∈ R, r.n = x
  · obtain ⟨r, hr, rfl⟩ := hrow
    have hl := h'.lookS hr hx
    have s := h.ses r hr
    have s' := h'.ses r hr
    have s0 := s.c0
    have s1 := s.c1
    have hbl := h.lt _ (h.gf _ (h.gb r hr).1)
    have hb2 : IntKind.i64.wrap (highL L r.n - 8) = highL L r.n - 8 := IntWalk.i64_in _ (by omega)
    by_cases hold : y < 1 ∨ y ≤ highL L r.n - 8
    · rw [lookL_old hold]
      clear h h' s s'
      by_cases hy1 : y < 1
      ·
        go_enter Tryz.func64, Tryz.ntmps64
        go_wp2_with fail
        exact bodyPost_ret (v := .tuple #[ocv oc0, .int .i64 2]) (by simp [results, Tryz.results64, go_sem, ocv, oc0]) rfl ⟨rfl, (Below.refl _ w).alloc (Nat.le_refl _) _⟩
      · have hy2 : y ≤ highL L r.n - 8 := by omega
        go_enter Tryz.func64, Tryz.ntmps64
        go_wp2_with fail
        exact bodyPost_ret (v := .tuple #[ocv oc0, .int .i64 2]) (by simp [results, Tryz.results64, go_sem, ocv, oc0]) rfl ⟨rfl, (Below.refl _ w).alloc (Nat.le_refl _) _⟩
    · have hy1 : ¬ y < 1 := by omega
      have hy2 : ¬ y ≤ highL L r.n - 8 := by omega
      by_cases hqq : ∃ q ∈ r.O, q.1 = y
      · obtain ⟨q, hq, rfl⟩ := hqq
        obtain ⟨_, o, hf, hob⟩ := s.out q hq
        have hl2 := s'.lookY hq hy
        have b0 : w.cell? ⟨q.2, 0, none⟩ = some (.int .i64 o.code) := cell_of_row w q.2 0 _ _ _ hob
        have b1 : w.cell? ⟨q.2, 1, none⟩ = some (.int .i64 o.pos) := cell_of_row w q.2 1 _ _ _ hob
        have b2 : w.cell? ⟨q.2, 2, none⟩ = some (.int .i64 o.first) := cell_of_row w q.2 2 _ _ _ hob
        have b3 : w.cell? ⟨q.2, 3, none⟩ = some (.int .i64 o.ver) := cell_of_row w q.2 3 _ _ _ hob
        have hbq := h.lt _ (h.fo r hr q hq).1
        rw [lookL_known hold hf]
        clear h h' s s' hob hf hold
        go_enter Tryz.func64, Tryz.ntmps64
        go_wp2_with fail
        exact bodyPost_ret (v := .tuple #[ocv o, .int .i64 1]) (by simp [results, Tryz.results64, go_sem, ocv]) rfl ⟨rfl, (Below.refl _ w).alloc (Nat.le_refl _) _⟩
      · have hn : ∀ q ∈ r.O, q.1 ≠ y := fun q hq e => hqq ⟨q, hq, e⟩
        have hf : findL L r.n y = none := by
          cases hf : findL L r.n y with
          | none => rfl
          | some o => exact absurd (s.all y o (by omega) hf) (fun ⟨q, hq, e⟩ => hn q hq e)
        have hl2 := s'.lookN hn hy
        rw [lookL_fresh hold hf]
        clear h h' s s' hf hqq hn hold
        go_enter Tryz.func64, Tryz.ntmps64
        go_wp2_with fail
        exact bodyPost_ret (v := .tuple #[ocv oc0, .int .i64 0]) (by simp [results, Tryz.results64, go_sem, ocv, oc0]) rfl ⟨rfl, (Below.refl _ w).alloc (Nat.le_refl _) _⟩
  · have hn : ∀ r ∈ R, r.n ≠ x := fun r hr e => hrow ⟨r, hr, e⟩
    have hz := highL_none (h.no_ses hn)
    have hf := findL_none (h.no_ses hn) y
    have hl := h'.lookN hn hx
    by_cases hy1 : y < 1
    · rw [lookL_old (.inl hy1)]
      clear h h' hn hrow hf hz
      go_enter Tryz.func64, Tryz.ntmps64
      go_wp2_with fail
      exact bodyPost_ret (v := .tuple #[ocv oc0, .int .i64 2]) (by simp [results, Tryz.results64, go_sem, ocv, oc0]) rfl ⟨rfl, (Below.refl _ w).alloc (Nat.le_refl _) _⟩
    · rw [lookL_fresh (by omega) hf]
      clear h h' hn hrow hf hz
      go_enter Tryz.func64, Tryz.ntmps64
      go_wp2_with fail
      exact bodyPost_ret (v := .tuple #[ocv oc0, .int .i64 0]) (by simp [results, Tryz.results64, go_sem, ocv, oc0]) rfl ⟨rfl, (Below.refl _ w).alloc (Nat.le_refl _) _⟩
end Go.Proofs.YthdcnknjjbdefaaGreatDoor.Ded

/- Dedup: a table's keys in rising order; Sessions, Seqs. -/
namespace Go.Proofs.YthdcnknjjbdefaaGreatDoor.Ded
open Go.RowKit Go.Bl Go.Maps Go.Sort Go.Shelf

theorem sortsI (m : Nat) : AnyZI.SortsIn Tryz.prog Tryz.sorted77_ren Fence.wide m :=
  ⟨fun blk off cap ss W hH hblk hsz => callsIn_wide.2 (AnyM.slices_Sort_int Tryz.sort89 blk off cap ss W hH hblk hsz),
   fun p cap W => callsIn_wide.2 (AnyM.slices_Sort_int_none Tryz.sort89 p cap W)⟩

theorem known_iff {L : List En} (h : OkL L) {x y : Int} : (lookL L x y).2 = 1 ↔ highL L x - 8 < y ∧ ∃ o, findL L x y = some o := by
  constructor
  · intro hk
    by_cases ho : y < 1 ∨ y ≤ highL L x - 8
    · rw [lookL_old ho] at hk; simp at hk
    · cases hf : findL L x y with
      | none => rw [lookL_fresh ho hf] at hk; simp at hk
      | some o => exact ⟨by omega, o, rfl⟩
  · rintro ⟨h1, o, h2⟩
    obtain ⟨e, he, _⟩ := Option.map_eq_some_iff.1 h2
    have hm := List.mem_of_find?_eq_some he
    have hp := List.find?_some he
    simp only [Bool.and_eq_true, decide_eq_true_eq] at hp
    have := h.seq e hm
    rw [lookL_known (by omega) h2]

theorem keysO_call (mb : Option Nat) (W : World) : Calls Tryz.prog 78 #[.map mb] W fun e w' => e = .returned (.func (.func 90) #[] #[.pointer (some ⟨W.heap.size, 0, none⟩)]) ∧ w' = W.alloc (.cells #[.map mb] 136) :=
  callsIn_wide.1 (AnyZI.keys_in Tryz.keys78 Fence.wide 5 trivial rfl mb W)
set_option maxHeartbeats 1000000 in
theorem sortedO_call {H : Type} (b nn : Nat) (D0 : DataW H) (R : Value → Option (DataW H × List MemPlace)) (w : World) (hown : w.ownsMap Tryz.prog 3 R b nn D0) (hmax : Maps.size D0 ≤ maxLen) (hbytes : Maps.size D0 * 8 ≤ 140737488355328) :
    Calls Tryz.prog 77 #[.func (.func 90) #[] #[.pointer (some ⟨w.heap.size, 0, none⟩)]] (w.alloc (.cells #[.map (some b)] 136)) fun e w' => ∃ (v : Value) (ss : List Int), e = .returned v ∧ ss.Perm (intKeys D0) ∧
      w'.ownsRow (w.alloc (.cells #[.map (some b)] 136)).heap.size 3 1 v ss.length ((ss.mergeSort (fun x y => decide (x ≤ y))).map encZ) ∧ (v = .slice none 0 0 ↔ ss = []) ∧ Below (w.alloc (.cells #[.map (some b)] 136)).heap.size (w.alloc (.cells #[.map (some b)] 136)) w' := by
  have hbl := hown.lt
  have hseq : SeqGives Fence.wide 2 Tryz.prog 90 #[.pointer (some ⟨w.heap.size, 0, none⟩)] encZ (fun ss => ss.Perm (intKeys D0)) (Maps.size D0) (w.alloc (.cells #[.map (some b)] 136)) :=
    AnyZI.keys_gives (ρ := Tryz.keys78_ren) { Tryz.keys78 with } Fence.wide _ trivial rfl (by omega) w.heap.size b nn D0 _ (by simp) (by simp) (by
      obtain ⟨es, clock, hb, Ft, hs, hD⟩ := hown
      exact ⟨es, clock, (Below.heap_alloc _ _ b hbl).trans hb, Ft, hs, hD⟩)
  exact callsIn_wide.1 (AnyZI.sorted_in Tryz.sorted77 Fence.wide 5 trivial trivial trivial trivial rfl (by omega) (sortsI _) (enters_of Tryz.func89 (by kernel_rfl) rfl) 90 #[.pointer (some ⟨w.heap.size, 0, none⟩)] trivial (enters_of Tryz.func90 (by kernel_rfl) rfl) _ _ hmax hbytes _ hseq)
/-- 'slices.Sorted(maps.Keys(m))': the keys in rising order. -/
theorem sortedO_rows (b : Nat) (A : List (Int × Value)) (w : World) (hm : MapL w Tryz.prog 3 intLit b A) (hlen : A.length ≤ 1073741824) :
    Calls Tryz.prog 77 #[.func (.func 90) #[] #[.pointer (some ⟨w.heap.size, 0, none⟩)]] (w.alloc (.cells #[.map (some b)] 136)) fun e w' => ∃ v ks, e = .returned v ∧ ks.Pairwise (· < ·) ∧ (∀ x, x ∈ ks ↔ ∃ r ∈ A, r.1 = x) ∧ ks.length = A.length ∧
      Sl w' (fun q => w.heap.size ≤ q) 1 intc v ks ∧ Below w.heap.size w w' := by
  obtain ⟨hnd, D, hown, hsz, hat, hhas⟩ := hm
  refine (sortedO_call b A.length D Rv w hown (by rw [hsz]; unfold maxLen; omega) (by rw [hsz]; omega)).mono ?_
  rintro e w' ⟨v, ss, rfl, hP, hrow, -, hB⟩
  obtain ⟨hr, hmem⟩ := sorted_keysI_rise lawI Tryz.underlying3 hown hP
  have hks : ∀ x, x ∈ ss.mergeSort (fun x y => decide (x ≤ y)) ↔ ∃ r ∈ A, r.1 = x := fun x => by
    rw [hmem, show Lit.int .i64 x = intLit x from rfl, hhas]
    constructor
    · intro h
      obtain ⟨v, hv⟩ := Option.isSome_iff_exists.1 h
      exact ⟨_, getL_mem hv, rfl⟩
    · rintro ⟨r, hr, e⟩
      cases hg : getL A x with
      | none => exact absurd e (getL_none.1 hg r hr)
      | some v => rfl
  have hl : ss.length = (ss.mergeSort (fun x y => decide (x ≤ y))).length := by rw [List.length_mergeSort]
  rw [hl, map_intc] at hrow
  refine ⟨v, _, rfl, hr, hks, ?_, (Sl.of_own (enc := intc) (fun _ => rfl) hrow).mono fun q hq hv => ?_, ((Below.refl _ w).alloc (Nat.le_refl _) _).trans (hB.mono (by simp))⟩
  · have h2 : (ss.mergeSort (fun x y => decide (x ≤ y))).Perm (A.map Prod.fst) := (List.perm_ext_iff_of_nodup (hr.imp fun {a b} h e => by omega) hnd).2 fun x => by rw [hks, List.mem_map]
    rw [h2.length_eq, List.length_map]
  · have := (hrow.lt q hv).1
    simp at this
    omega

end Go.Proofs.YthdcnknjjbdefaaGreatDoor.Ded

namespace Go.Proofs.YthdcnknjjbdefaaGreatDoor.Ded
open Go.RowKit Go.Bl

def putL (L : List En) (x y : Int) (o : Oc) : List En × Int :=
  if x < 1 ∨ y < 1 then (L, 1) else if (lookL L x y).2 = 1 then (L, 7) else if (lookL L x y).2 = 2 then (L, 12) else (L ++ [⟨x, y, o⟩], 0)
theorem lookL_cases (L : List En) (x y : Int) : ((lookL L x y).2 = 0 ∧ 1 ≤ y ∧ highL L x - 8 < y ∧ findL L x y = none) ∨ (lookL L x y).2 = 1 ∨ (lookL L x y).2 = 2 := by
  by_cases ho : y < 1 ∨ y ≤ highL L x - 8
  · exact .inr (.inr (by rw [lookL_old ho]))
  · cases hf : findL L x y with
    | none => exact .inl ⟨by rw [lookL_fresh ho hf], by omega, by omega, rfl⟩
    | some o => exact .inr (.inl (by rw [lookL_known ho hf]))
theorem inj_of_nodup {α β : Type} {f : α → β} : ∀ {l : List α}, (l.map f).Nodup → ∀ {a b}, a ∈ l → b ∈ l → f a = f b → a = b
  | c :: l, h, a, b, ha, hb, e => by
    rw [List.map_cons, List.nodup_cons] at h
    rcases List.mem_cons.1 ha with e1 | h1 <;> rcases List.mem_cons.1 hb with e2 | h2
    · exact e1.trans e2.symm
    · exact absurd (List.mem_map.2 ⟨b, h2, e.symm.trans (congrArg f e1)⟩) h.1
    · exact absurd (List.mem_map.2 ⟨a, h1, e.trans (congrArg f e2)⟩) h.1
    · exact inj_of_nodup h.2 h1 h2 e
theorem rowsO_del (O : List (Int × Nat)) (x : Int) : (rowsO O).filter (fun r => decide (r.1 ≠ x)) = rowsO (O.filter fun q => decide (q.1 ≠ x)) := by
  simp only [rowsO, List.filter_map]; rfl
def goneO (ks : List Int) (hi : Int) (O : List (Int × Nat)) : List (Int × Nat) := O.filter fun q => !(decide (q.1 ∈ ks) && decide (q.1 ≤ hi - 8))
theorem goneO_del (ks : List Int) (hi : Int) (O : List (Int × Nat)) (x : Int) (hx : x ≤ hi - 8) : (goneO ks hi O).filter (fun q => decide (q.1 ≠ x)) = goneO (ks ++ [x]) hi O := by
  unfold goneO
  rw [List.filter_filter]
  refine List.filter_congr fun q _ => ?_
  by_cases e : q.1 = x
  · simp [e, hx]
  · simp [e]
theorem goneO_skip (ks : List Int) (hi : Int) (O : List (Int × Nat)) (x : Int) (hx : ¬ x ≤ hi - 8) : goneO ks hi O = goneO (ks ++ [x]) hi O := by
  unfold goneO
  refine List.filter_congr fun q _ => ?_
  by_cases e : q.1 = x
  · simp [e, hx]
  · simp [e]
theorem goneO_nil (hi : Int) (O : List (Int × Nat)) : goneO [] hi O = O := by simp [goneO]

section
variable {w w' : World} {p : Nat} {L : List En} {F G F' : Nat → Prop} {bm : Nat} {R : List SRow} {r : SRow}
theorem TabIn.mono (h : TabIn w p L F G bm R) (hF : ∀ k, F k → F' k) (hl : ∀ k, F' k → k < w.heap.size) : TabIn w p L F' G bm R :=
  ⟨h.blk, h.map, h.ses, h.mem, h.dist, h.dism, hF _ h.fp, h.gp, h.gm, h.gb, fun r hr q hq => ⟨hF _ (h.fo r hr q hq).1, (h.fo r hr q hq).2⟩, fun k hk => hF _ (h.gf k hk), hl, h.ok⟩
/-- A new session. -/
theorem put_new (h : TabIn w p L F G bm R) {x : Int} (hn : ∀ r ∈ R, r.n ≠ x) {b mo : Nat} (hmo : w.heap.size ≤ mo) (hb : w.heap.size ≤ b) (hbm : mo ≠ b) (hk : Keeps (fun z => z = bm) w w')
    (hmap : MapL w' Tryz.prog 3 intLit bm (rowsS R ++ [(x, ptr b)])) (hblk : w'.heap[b]? = some (.cells #[.int .i64 0, .map (some mo)] 138 (0, 0))) (hmm : MapL w' Tryz.prog 3 intLit mo [])
    (hF : ∀ k, F' k ↔ F k ∨ (w.heap.size ≤ k ∧ k < w'.heap.size)) :
    TabIn w' p L F' (fun k => G k ∨ k = b ∨ k = mo) bm (R ++ [⟨x, b, mo, []⟩]) := by
  have hbl : b < w'.heap.size := (Array.getElem?_eq_some_iff.1 hblk).1
  have hlG : ∀ k, G k → k < w.heap.size := fun k hk => h.lt k (h.gf k hk)
  have hpl := h.lt p h.fp
  have hne : ∀ k, F k → ¬ G k → k ≠ bm := fun k _ hg e => hg (e ▸ h.gm)
  refine ⟨hk.grownTo h.blk (fun e => h.gp (e ▸ h.gm)), by simpa [rowsS] using hmap, ?_, ?_, ?_, ?_, (hF p).2 (.inl h.fp), ?_, .inl h.gm, ?_, ?_, ?_, ?_, h.ok⟩
  · intro s hs
    rcases List.mem_append.1 hs with hs | hs
    · have hd := List.nodup_cons.1 h.dism
      exact (h.ses s hs).keep hk (fun e => h.map.not_cells (e ▸ (h.ses s hs).blk)) (fun e => hd.1 (e ▸ List.mem_map.2 ⟨s, hs, rfl⟩)) (fun q hq => hne _ (h.fo s hs q hq).1 (h.fo s hs q hq).2)
    · obtain rfl := List.mem_singleton.1 hs
      refine ⟨?_, by simpa [rowsO] using hmm, by simp, ?_, by simp⟩
      · rw [highL_none (h.no_ses hn)]; exact hblk
      · intro y o _ hf
        rw [findL_none (h.no_ses hn)] at hf
        simp at hf
  · intro e he
    obtain ⟨s, hs, e2⟩ := h.mem e he
    exact ⟨s, List.mem_append_left _ hs, e2⟩
  · rw [List.map_append, List.nodup_append]
    refine ⟨h.dist, by simp, fun a ha c hc => ?_⟩
    obtain ⟨s, hs, rfl⟩ := List.mem_map.1 ha
    simp only [List.map_cons, List.map_nil, List.mem_singleton] at hc
    have := hlG _ (h.gb s hs).1
    omega
  · rw [List.map_append, ← List.cons_append, List.nodup_append]
    refine ⟨h.dism, by simp, fun a ha c hc => ?_⟩
    simp only [List.map_cons, List.map_nil, List.mem_singleton] at hc
    rcases List.mem_cons.1 ha with rfl | ha
    · have := hlG _ h.gm; omega
    · obtain ⟨s, hs, rfl⟩ := List.mem_map.1 ha
      have := hlG _ (h.gb s hs).2
      omega
  · rintro (e | e | e)
    · exact h.gp e
    · omega
    · omega
  · intro s hs
    rcases List.mem_append.1 hs with hs | hs
    · exact ⟨.inl (h.gb s hs).1, .inl (h.gb s hs).2⟩
    · obtain rfl := List.mem_singleton.1 hs
      exact ⟨.inr (.inl rfl), .inr (.inr rfl)⟩
  · intro s hs q hq
    rcases List.mem_append.1 hs with hs | hs
    · have h1 := h.fo s hs q hq
      refine ⟨(hF _).2 (.inl h1.1), ?_⟩
      have := h.lt _ h1.1
      rintro (e | e | e)
      · exact h1.2 e
      · omega
      · omega
    · obtain rfl := List.mem_singleton.1 hs
      cases hq
  · rintro k (e | e | e)
    · exact (hF k).2 (.inl (h.gf k e))
    · subst e; exact (hF _).2 (.inr ⟨hb, hbl⟩)
    · subst e; exact (hF _).2 (.inr ⟨hmo, hmm.lt⟩)
  · intro k hk'
    rcases (hF k).1 hk' with e | e
    · exact Nat.lt_of_lt_of_le (h.lt k e) hk.size
    · exact e.2

/-- A put number. -/
theorem put_done (h : TabIn w p L F G bm R) (hr : r ∈ R) {y : Int} {o : Oc} {bo : Nat} (hbo : w.heap[bo]? = some (.cells (occ o).toArray 34 (0, 0))) (hFo : F bo) (hGo : ¬ G bo)
    (hx : 1 ≤ r.n ∧ r.n ≤ 9223372036854775807) (hy : 1 ≤ y ∧ y ≤ 9223372036854775807) (hnew : highL L r.n - 8 < y) (hf : findL L r.n y = none) {hi : Int} (hhi : hi = max (highL L r.n) y) (hk : Keeps (fun z => z = r.b ∨ z = r.mo) w w')
    (hblk : w'.heap[r.b]? = some (.cells #[.int .i64 hi, .map (some r.mo)] 138 (0, 0))) {ks : List Int} (hks : ∀ z, z ∈ ks ↔ ∃ q ∈ r.O ++ [(y, bo)], q.1 = z)
    (hmap : MapL w' Tryz.prog 3 intLit r.mo (rowsO (goneO ks hi (r.O ++ [(y, bo)])))) (hF : ∀ k, F k → F' k) (hl : ∀ k, F' k → k < w'.heap.size) :
    TabIn w' p (L ++ [⟨r.n, y, o⟩]) F' G bm (R.map fun s => if s.b = r.b then { s with O := goneO ks hi (r.O ++ [(y, bo)]) } else s) := by
  have hgone : ∀ q, q ∈ goneO ks hi (r.O ++ [(y, bo)]) ↔ q ∈ r.O ++ [(y, bo)] ∧ hi - 8 < q.1 := by
    intro q
    unfold goneO
    rw [List.mem_filter]
    refine ⟨fun ⟨h1, h2⟩ => ⟨h1, ?_⟩, fun ⟨h1, h2⟩ => ⟨h1, ?_⟩⟩
    · have : q.1 ∈ ks := (hks _).2 ⟨q, h1, rfl⟩
      simp [this] at h2
      omega
    · simp; exact .inr h2
  have hGk : ∀ k, F k → ¬ G k → ¬ (k = r.b ∨ k = r.mo) := fun k _ hg e => by
    rcases e with rfl | rfl
    · exact hg (h.gb r hr).1
    · exact hg (h.gb r hr).2
  have hdm := List.nodup_cons.1 h.dism
  have heq : ∀ s ∈ R, s.b = r.b → s = r := fun s hs e => inj_of_nodup h.dist hs hr e
  have hen : ∀ s ∈ R, s.n = r.n → s = r := fun s hs e => inj_of_nodup (f := SRow.n) (by have := h.map.1; simpa [rowsS, Function.comp_def] using this) hs hr e
  have hem : ∀ s ∈ R, s.mo = r.mo → s = r := fun s hs e => inj_of_nodup hdm.2 hs hr e
  have hup : ∀ s, (if s.b = r.b then ({ s with O := goneO ks hi (r.O ++ [(y, bo)]) } : SRow) else s).n = s.n ∧ (if s.b = r.b then ({ s with O := goneO ks hi (r.O ++ [(y, bo)]) } : SRow) else s).b = s.b ∧ (if s.b = r.b then ({ s with O := goneO ks hi (r.O ++ [(y, bo)]) } : SRow) else s).mo = s.mo := fun s => by split <;> exact ⟨rfl, rfl, rfl⟩
  have hrows : rowsS (R.map fun s => if s.b = r.b then { s with O := goneO ks hi (r.O ++ [(y, bo)]) } else s) = rowsS R := by
    unfold rowsS
    rw [List.map_map]
    refine List.map_congr_left fun s _ => ?_
    show (_, _) = _
    rw [(hup s).1, (hup s).2.1]
  refine ⟨hk.grownTo h.blk (fun e => ?_), ?_, ?_, ?_, ?_, ?_, hF _ h.fp, h.gp, h.gm, ?_, ?_, fun k hk => hF _ (h.gf k hk), hl, ?_⟩
  · rcases e with e | e
    · exact h.gp (e ▸ (h.gb r hr).1)
    · exact h.gp (e ▸ (h.gb r hr).2)
  · rw [hrows]
    refine h.map.keep hk (fun e => ?_)
    rcases e with e | e
    · exact h.map.not_cells (e ▸ (h.ses r hr).blk)
    · exact hdm.1 (e ▸ List.mem_map.2 ⟨r, hr, rfl⟩)
  · intro s' hs'
    obtain ⟨s, hs, rfl⟩ := List.mem_map.1 hs'
    by_cases hsb : s.b = r.b
    · obtain rfl := heq s hs hsb
      rw [if_pos rfl]
      have hs0 := h.ses s hs
      have hhl : highL (L ++ [⟨s.n, y, o⟩]) s.n = hi := by rw [highL_append, if_pos rfl, hhi]
      refine ⟨by show w'.heap[s.b]? = some (.cells #[.int .i64 (highL _ s.n), _] _ _); rw [hhl]; exact hblk, hmap, ?_, ?_, ?_⟩
      · intro q hq
        obtain ⟨h1, h2⟩ := (hgone q).1 hq
        refine ⟨by show highL _ s.n - 8 < _; rw [hhl]; exact h2, ?_⟩
        rcases List.mem_append.1 h1 with h1 | h1
        · obtain ⟨_, o', h3, h4⟩ := hs0.out q h1
          have h5 := h.fo s hs q h1
          exact ⟨o', by show findL _ s.n q.1 = _; rw [findL_append, h3]; rfl, hk.grownTo h4 (hGk _ h5.1 h5.2)⟩
        · obtain rfl := List.mem_singleton.1 h1
          exact ⟨o, by show findL _ s.n y = _; rw [findL_append, hf]; simp, hk.grownTo hbo (hGk _ hFo hGo)⟩
      · intro y' o' h1 h2
        have h1 : hi - 8 < y' := by rw [← hhl]; exact h1
        have h2 : findL (L ++ [⟨s.n, y, o⟩]) s.n y' = some o' := h2
        show ∃ q ∈ goneO ks hi (s.O ++ [(y, bo)]), q.1 = y'
        rw [findL_append] at h2
        cases hfo : findL L s.n y' with
        | some o2 =>
          obtain ⟨q, hq, rfl⟩ := hs0.all y' o2 (by omega) hfo
          exact ⟨q, (hgone q).2 ⟨List.mem_append_left _ hq, h1⟩, rfl⟩
        | none =>
          rw [hfo] at h2
          by_cases hyy : y = y'
          · subst hyy
            exact ⟨(y, bo), (hgone _).2 ⟨List.mem_append_right _ (List.mem_singleton.2 rfl), h1⟩, rfl⟩
          · simp [hyy] at h2
      · show (goneO ks hi (s.O ++ [(y, bo)])).length ≤ _
        have h1 : (goneO ks hi (s.O ++ [(y, bo)])).length ≤ (s.O ++ [(y, bo)]).length := List.length_filter_le _ _
        have h2 := hs0.olen
        simp only [List.length_append, List.length_singleton] at h1 ⊢
        omega
    · rw [if_neg hsb]
      have hs0 := h.ses s hs
      have hsn : s.n ≠ r.n := fun e => hsb (by rw [hen s hs e])
      have hs1 := hs0.keep hk (fun e => by
        rcases e with e | e
        · exact hsb e
        · exact (h.ses r hr).map.not_cells (e ▸ hs0.blk)) (fun e => by
        rcases e with e | e
        · exact hs0.map.not_cells (e ▸ (h.ses r hr).blk)
        · exact hsb (by rw [hem s hs e])) (fun q hq => hGk _ (h.fo s hs q hq).1 (h.fo s hs q hq).2)
      have hhl : highL (L ++ [⟨r.n, y, o⟩]) s.n = highL L s.n := by rw [highL_append, if_neg (Ne.symm hsn)]
      have hfl : ∀ z, findL (L ++ [⟨r.n, y, o⟩]) s.n z = findL L s.n z := fun z => by rw [findL_append, if_neg (fun e => hsn e.1.symm), Option.or_none]
      exact ⟨by rw [hhl]; exact hs1.blk, hs1.map, fun q hq => by rw [hhl, hfl]; exact hs1.out q hq, fun z o' h1 h2 => hs1.all z o' (by rw [hhl] at h1; exact h1) (by rw [hfl] at h2; exact h2), Nat.le_trans hs1.olen (by simp)⟩
  · intro e he
    rcases List.mem_append.1 he with he | he
    · obtain ⟨s, hs, e2⟩ := h.mem e he
      exact ⟨_, List.mem_map.2 ⟨s, hs, rfl⟩, (hup s).1.trans e2⟩
    · obtain rfl := List.mem_singleton.1 he
      exact ⟨_, List.mem_map.2 ⟨r, hr, rfl⟩, (hup r).1⟩
  · rw [List.map_map, show (SRow.b ∘ fun s => if s.b = r.b then ({ s with O := goneO ks hi (r.O ++ [(y, bo)]) } : SRow) else s) = SRow.b from funext fun s => (hup s).2.1]
    exact h.dist
  · rw [List.map_map, show (SRow.mo ∘ fun s => if s.b = r.b then ({ s with O := goneO ks hi (r.O ++ [(y, bo)]) } : SRow) else s) = SRow.mo from funext fun s => (hup s).2.2]
    exact h.dism
  · intro s' hs'
    obtain ⟨s, hs, rfl⟩ := List.mem_map.1 hs'
    rw [(hup s).2.1, (hup s).2.2]
    exact h.gb s hs
  · intro s' hs' q hq
    obtain ⟨s, hs, rfl⟩ := List.mem_map.1 hs'
    by_cases hsb : s.b = r.b
    · rw [if_pos hsb] at hq
      obtain ⟨h1, _⟩ := (hgone q).1 hq
      rcases List.mem_append.1 h1 with h1 | h1
      · exact ⟨hF _ (h.fo r hr q h1).1, (h.fo r hr q h1).2⟩
      · obtain rfl := List.mem_singleton.1 h1
        exact ⟨hF _ hFo, hGo⟩
    · rw [if_neg hsb] at hq
      exact ⟨hF _ (h.fo s hs q hq).1, (h.fo s hs q hq).2⟩
  · refine ⟨fun e he => ?_, fun e he => ?_⟩
    · rcases List.mem_append.1 he with he | he
      · exact h.ok.ses e he
      · obtain rfl := List.mem_singleton.1 he; exact hx
    · rcases List.mem_append.1 he with he | he
      · exact h.ok.seq e he
      · obtain rfl := List.mem_singleton.1 he; exact hy
end
end Go.Proofs.YthdcnknjjbdefaaGreatDoor.Ded
