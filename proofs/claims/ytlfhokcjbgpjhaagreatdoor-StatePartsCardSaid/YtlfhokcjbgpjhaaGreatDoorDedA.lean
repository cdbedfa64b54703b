/- Dedup: what was put, as a list; what a table's blocks hold; New, Look. Under the stated premises on sizes. -/
import Derived.Test.YtlfhokcjbgpjhaaGreatDoorProg
import Derived.Test.YtlfhokcjbgpjhaaGreatDoorBlP
import Derived.Test.YtlfhokcjbgpjhaaGreatDoorBlB
import Derived.Lib.Hide
import Derived.Deep.RegionHeld3
import Derived.Deep.DrawnRows
namespace Go.Proofs.YtlfhokcjbgpjhaaGreatDoor.Ded
open Go.RowKit Go.Bl
attribute [local go_sem ↓] Go.wp_at_zero Go.wp_at_succ

structure Oc where
  code : Int
  pos : Int
  first : Int
  ver : Int
  deriving DecidableEq
def oc0 : Oc := ⟨0, 0, 0, 0⟩
def occ (o : Oc) : List Value := [.int .i64 o.code, .int .i64 o.pos, .int .i64 o.first, .int .i64 o.ver]
def ocv (o : Oc) : Value := .agg #[.int .i64 o.code, .int .i64 o.pos, .int .i64 o.first, .int .i64 o.ver]
structure En where
  ses : Int
  seq : Int
  o : Oc
/-- The highest number of a session. -/
def highL (L : List En) (x : Int) : Int := L.foldl (fun h e => if e.ses = x then max h e.seq else h) 0
/-- What was put. -/
def findL (L : List En) (x y : Int) : Option Oc := (L.find? fun e => decide (e.ses = x) && decide (e.seq = y)).map En.o
def lookL (L : List En) (x y : Int) : Oc × Int := if y < 1 ∨ y ≤ highL L x - 8 then (oc0, 2) else match findL L x y with | none => (oc0, 0) | some o => (o, 1)
structure OkL (L : List En) : Prop where
  ses : ∀ e ∈ L, 1 ≤ e.ses ∧ e.ses ≤ 9223372036854775807
  seq : ∀ e ∈ L, 1 ≤ e.seq ∧ e.seq ≤ 9223372036854775807

theorem highL_append (L : List En) (e : En) (x : Int) : highL (L ++ [e]) x = if e.ses = x then max (highL L x) e.seq else highL L x := by
  simp [highL, List.foldl_append]
theorem findL_append (L : List En) (e : En) (x y : Int) : findL (L ++ [e]) x y = (findL L x y).or (if e.ses = x ∧ e.seq = y then some e.o else none) := by
  unfold findL
  rw [List.find?_append]
  cases h : L.find? fun e => decide (e.ses = x) && decide (e.seq = y) with
  | some z => simp
  | none =>
    by_cases he : e.ses = x ∧ e.seq = y
    · simp [he]
    · simp only [Option.map_none, Option.none_or, if_neg he, List.find?_cons]
      rw [show (decide (e.ses = x) && decide (e.seq = y)) = false by simpa using he]
      rfl
theorem highL_in {L : List En} (h : OkL L) (x : Int) : 0 ≤ highL L x ∧ highL L x ≤ 9223372036854775807 := by
  have : ∀ (L : List En) (a : Int), (∀ e ∈ L, 1 ≤ e.seq ∧ e.seq ≤ 9223372036854775807) → 0 ≤ a ∧ a ≤ 9223372036854775807 → 0 ≤ L.foldl (fun h e => if e.ses = x then max h e.seq else h) a ∧ L.foldl (fun h e => if e.ses = x then max h e.seq else h) a ≤ 9223372036854775807 := by
    intro L
    induction L with
    | nil => intro a _ h; exact h
    | cons e L ih =>
      intro a hL ha
      have he := hL e List.mem_cons_self
      refine ih _ (fun e he => hL e (List.mem_cons_of_mem _ he)) ?_
      show 0 ≤ (if e.ses = x then max a e.seq else a) ∧ (if e.ses = x then max a e.seq else a) ≤ _
      split <;> omega
  exact this L 0 h.seq (by omega)
theorem highL_none {L : List En} {x : Int} (h : ∀ e ∈ L, e.ses ≠ x) : highL L x = 0 := by
  unfold highL
  induction L with
  | nil => rfl
  | cons e L ih =>
    rw [List.foldl_cons, if_neg (h e List.mem_cons_self)]
    exact ih fun e he => h e (List.mem_cons_of_mem _ he)
theorem findL_none {L : List En} {x : Int} (h : ∀ e ∈ L, e.ses ≠ x) (y : Int) : findL L x y = none := by
  unfold findL
  rw [Option.map_eq_none_iff, List.find?_eq_none]
  intro e he
  simp [h e he]

def intLit (n : Int) : Lit := .int .i64 n
theorem intLit_inj (a b : Int) (h : intLit a = intLit b) : a = b := by simpa [intLit] using h
theorem lawI : Maps.Keyed Tryz.prog 3 := Maps.int_keyed Tryz.underlying3
def i64 (n : Int) : Prop := -9223372036854775808 ≤ n ∧ n ≤ 9223372036854775807
theorem i64_wf {n : Int} (h : i64 n) : (Lit.int .i64 n).wf = true := by
  have h1 : IntKind.i64.min = -9223372036854775808 := rfl
  have h2 : IntKind.i64.max = 9223372036854775807 := rfl
  simp only [Lit.wf, h1, h2, Bool.and_eq_true, decide_eq_true_eq]
  exact h
theorem keyI {n : Int} (h : i64 n) : keyOf Tryz.prog 3 (.int .i64 n) = some (intLit n) := Maps.keyOf_int_mk Tryz.underlying3 (i64_wf h)
theorem zeroPs (w : World) : (zeroValue 115).run Tryz.prog w = .ok (.pointer none) w := by kernel_rfl
theorem zeroPo (w : World) : (zeroValue 122).run Tryz.prog w = .ok (.pointer none) w := by kernel_rfl
def ptr (b : Nat) : Value := .pointer (some ⟨b, 0, none⟩)

/-- A session's row: its number, its block, its map's, its outcomes' numbers and blocks. -/
structure SRow where
  n : Int
  b : Nat
  mo : Nat
  O : List (Int × Nat)
def rowsO (O : List (Int × Nat)) : List (Int × Value) := O.map fun q => (q.1, ptr q.2)
def rowsS (R : List SRow) : List (Int × Value) := R.map fun r => (r.n, ptr r.b)
structure SesIn (w : World) (L : List En) (r : SRow) : Prop where
  blk : w.heap[r.b]? = some (.cells #[.int .i64 (highL L r.n), .map (some r.mo)] 121 (0, 0))
  map : MapL w Tryz.prog 3 intLit r.mo (rowsO r.O)
  out : ∀ q ∈ r.O, highL L r.n - 8 < q.1 ∧ ∃ o, findL L r.n q.1 = some o ∧ w.heap[q.2]? = some (.cells (occ o).toArray 35 (0, 0))
  all : ∀ y o, highL L r.n - 8 < y → findL L r.n y = some o → ∃ q ∈ r.O, q.1 = y
  olen : r.O.length ≤ L.length
/-- Block p of w is a table of what was put; its blocks are in F, those that are written in G. -/
structure TabIn (w : World) (p : Nat) (L : List En) (F G : Nat → Prop) (bm : Nat) (R : List SRow) : Prop where
  blk : w.heap[p]? = some (.cells #[.map (some bm)] 118 (0, 0))
  map : MapL w Tryz.prog 3 intLit bm (rowsS R)
  ses : ∀ r ∈ R, SesIn w L r
  mem : ∀ e ∈ L, ∃ r ∈ R, r.n = e.ses
  dist : (R.map SRow.b).Nodup
  dism : (bm :: R.map SRow.mo).Nodup
  fp : F p
  gp : ¬ G p
  gm : G bm
  gb : ∀ r ∈ R, G r.b ∧ G r.mo
  fo : ∀ r ∈ R, ∀ q ∈ r.O, F q.2 ∧ ¬ G q.2
  gf : ∀ k, G k → F k
  lt : ∀ k, F k → k < w.heap.size
  ok : OkL L
def TabAt (w : World) (p : Nat) (L : List En) (F G : Nat → Prop) : Prop := ∃ bm R, TabIn w p L F G bm R ∧ R.length ≤ L.length ∧ ∀ r ∈ R, ∃ e ∈ L, e.ses = r.n

section
variable {w w' : World} {p : Nat} {L : List En} {F G H : Nat → Prop} {bm : Nat} {R : List SRow} {r : SRow}
theorem SesIn.keep (h : SesIn w L r) (hk : Keeps H w w') (h1 : ¬ H r.b) (h2 : ¬ H r.mo) (h3 : ∀ q ∈ r.O, ¬ H q.2) : SesIn w' L r :=
  ⟨hk.grownTo h.blk h1, h.map.keep hk h2, fun q hq => by obtain ⟨a, o, b, c⟩ := h.out q hq; exact ⟨a, o, b, hk.grownTo c (h3 q hq)⟩, h.all, h.olen⟩
theorem TabIn.keep (h : TabIn w p L F G bm R) (hk : Keeps H w w') (hd : ∀ k, F k → ¬ H k) : TabIn w' p L F G bm R :=
  ⟨hk.grownTo h.blk (hd _ h.fp), h.map.keep hk (hd _ (h.gf _ h.gm)), fun r hr => (h.ses r hr).keep hk (hd _ (h.gf _ (h.gb r hr).1)) (hd _ (h.gf _ (h.gb r hr).2)) (fun q hq => hd _ (h.fo r hr q hq).1),
   h.mem, h.dist, h.dism, h.fp, h.gp, h.gm, h.gb, h.fo, h.gf, fun k hF => Nat.lt_of_lt_of_le (h.lt k hF) hk.size, h.ok⟩
theorem TabAt.keep (h : TabAt w p L F G) (hk : Keeps H w w') (hd : ∀ k, F k → ¬ H k) : TabAt w' p L F G := by
  obtain ⟨bm, R, h, h2⟩ := h
  exact ⟨bm, R, h.keep hk hd, h2⟩
theorem TabAt.fresh (h : TabAt w p L F G) (hk : Below w.heap.size w w') : TabAt w' p L F G := h.keep (Keeps.of_fresh hk fun _ => False) (fun _ _ => id)
theorem TabIn.c0 (h : TabIn w p L F G bm R) : w.cell? ⟨p, 0, none⟩ = some (.map (some bm)) := cell_of_row w p 0 _ _ _ h.blk
theorem TabIn.row (h : TabIn w p L F G bm R) (hr : r ∈ R) : getL (rowsS R) r.n = some (ptr r.b) := getL_of_mem h.map.1 (List.mem_map.2 ⟨r, hr, rfl⟩)
theorem TabIn.lookS (h : TabIn w p L F G bm R) (hr : r ∈ R) (hx : i64 r.n) : (Instr.lookup 116 (.map (some bm)) (.int .i64 r.n) false).run Tryz.prog w = .ok (.pointer (some ⟨r.b, 0, none⟩)) w := by
  rw [h.map.look lawI Tryz.underlying116 zeroPs (keyI hx), h.row hr]
  rfl
theorem getS_none {x : Int} (hn : ∀ r ∈ R, r.n ≠ x) : getL (rowsS R) x = none := getL_none.2 fun q hq => by
  obtain ⟨r, hr, rfl⟩ := List.mem_map.1 hq
  exact hn r hr
theorem TabIn.lookN (h : TabIn w p L F G bm R) {x : Int} (hn : ∀ r ∈ R, r.n ≠ x) (hx : i64 x) : (Instr.lookup 116 (.map (some bm)) (.int .i64 x) false).run Tryz.prog w = .ok (.pointer none) w := by
  rw [h.map.look lawI Tryz.underlying116 zeroPs (keyI hx), getS_none hn]
  rfl
theorem SesIn.c0 (h : SesIn w L r) : w.cell? ⟨r.b, 0, none⟩ = some (.int .i64 (highL L r.n)) := cell_of_row w r.b 0 _ _ _ h.blk
theorem SesIn.c1 (h : SesIn w L r) : w.cell? ⟨r.b, 1, none⟩ = some (.map (some r.mo)) := cell_of_row w r.b 1 _ _ _ h.blk
theorem SesIn.lookY (h : SesIn w L r) {q : Int × Nat} (hq : q ∈ r.O) (hx : i64 q.1) : (Instr.lookup 119 (.map (some r.mo)) (.int .i64 q.1) false).run Tryz.prog w = .ok (.pointer (some ⟨q.2, 0, none⟩)) w := by
  rw [h.map.look lawI Tryz.underlying119 zeroPo (keyI hx), getL_of_mem h.map.1 (show (q.1, ptr q.2) ∈ rowsO r.O from List.mem_map.2 ⟨q, hq, rfl⟩)]
  rfl
theorem getO_none {O : List (Int × Nat)} {x : Int} (hn : ∀ q ∈ O, q.1 ≠ x) : getL (rowsO O) x = none := getL_none.2 fun q hq => by
  obtain ⟨r, hr, rfl⟩ := List.mem_map.1 hq
  exact hn r hr
theorem SesIn.lookN (h : SesIn w L r) {x : Int} (hn : ∀ q ∈ r.O, q.1 ≠ x) (hx : i64 x) : (Instr.lookup 119 (.map (some r.mo)) (.int .i64 x) false).run Tryz.prog w = .ok (.pointer none) w := by
  rw [h.map.look lawI Tryz.underlying119 zeroPo (keyI hx), getO_none hn]
  rfl
theorem TabIn.no_ses (h : TabIn w p L F G bm R) {x : Int} (hn : ∀ r ∈ R, r.n ≠ x) : ∀ e ∈ L, e.ses ≠ x := fun e he q => by
  obtain ⟨r, hr, hq⟩ := h.mem e he
  exact hn r hr (hq.trans q)
end

set_option maxHeartbeats 400000 in
theorem new_any (w : World) : Calls Tryz.prog 49 #[] w fun e w' => e = .returned (ptr (w.heap.size + 1)) ∧ Below w.heap.size w w' ∧
    TabAt w' (w.heap.size + 1) [] (fun k => k = w.heap.size ∨ k = w.heap.size + 1) (fun k => k = w.heap.size) := by
  have hmm := @run_makeMap Tryz.prog
  go_enter Tryz.func49, Tryz.ntmps49
  go_wp2
  go_ret
  refine ⟨rfl, ((Below.refl _ _).alloc (Nat.le_refl _) _).alloc (by simp) _, w.heap.size, [], ?_, by simp, by simp⟩
  refine ⟨?_, ?_, by simp, by simp, by simp, by simp, .inr rfl, by simp, rfl, by simp, by simp, fun k hk => .inl hk, by simp; omega, ⟨by simp, by simp⟩⟩
  · have := heap_alloc_new (w.alloc (.map #[] 0)) (.cells #[.map (some w.heap.size)] 118)
    simpa using this
  · have := MapL.made w Tryz.prog 3 intLit
    simpa [rowsS] using this.keep (G := fun _ => False) ((Keeps.refl _ _).alloc _) id

theorem lookL_old {L : List En} {x y : Int} (h : y < 1 ∨ y ≤ highL L x - 8) : lookL L x y = (oc0, 2) := if_pos h
theorem lookL_fresh {L : List En} {x y : Int} (h : ¬ (y < 1 ∨ y ≤ highL L x - 8)) (hf : findL L x y = none) : lookL L x y = (oc0, 0) := by
  unfold lookL
  rw [if_neg h, hf]
theorem lookL_known {L : List En} {x y : Int} {o : Oc} (h : ¬ (y < 1 ∨ y ≤ highL L x - 8)) (hf : findL L x y = some o) : lookL L x y = (o, 1) := by
  unfold lookL
  rw [if_neg h, hf]

set_option maxHeartbeats 1000000 in
theorem look_any (w : World) (p : Nat) (L : List En) (F G : Nat → Prop) (h : TabAt w p L F G) (x y : Int) (hx : i64 x) (hy : i64 y) :
    Calls Tryz.prog 28 #[.pointer (some ⟨p, 0, none⟩), .int .i64 x, .int .i64 y] w fun e w' => e = .returned (.tuple #[ocv (lookL L x y).1, .int .i64 (lookL L x y).2]) ∧ Below w.heap.size w w' := by
  obtain ⟨bm, R, h, -⟩ := h
  have h' := h.keep ((Keeps.refl (fun _ => False) w).alloc (.cells #[.int .i64 0, .int .i64 0, .int .i64 0, .int .i64 0] 35)) (fun _ _ => id)
  have c0 := h.c0
  have hp := h.lt p h.fp
  have hhi := highL_in h.ok x
  by_cases hrow : ∃ r ∈ R, r.n = x
  · obtain ⟨r, hr, rfl⟩ := hrow
    have hl := h'.lookS hr hx
    have s := h.ses r hr
    have s' := h'.ses r hr
    have s0 := s.c0
    have s1 := s.c1
    have hbl := h.lt _ (h.gf _ (h.gb r hr).1)
    have hb2 : IntKind.i64.wrap (highL L r.n - 8) = highL L r.n - 8 := IntWalk.i64_in _ (by omega)
    by_cases hold : y < 1 ∨ y ≤ highL L r.n - 8
    · rw [lookL_old hold]
      clear h h' s s'
      by_cases hy1 : y < 1
      ·
        go_enter Tryz.func28, Tryz.ntmps28
        go_wp2_with fail
        exact bodyPost_ret (v := .tuple #[ocv oc0, .int .i64 2]) (by simp [results, Tryz.results28, go_sem, ocv, oc0]) rfl ⟨rfl, (Below.refl _ w).alloc (Nat.le_refl _) _⟩
      · have hy2 : y ≤ highL L r.n - 8 := by omega
        go_enter Tryz.func28, Tryz.ntmps28
        go_wp2_with fail
        exact bodyPost_ret (v := .tuple #[ocv oc0, .int .i64 2]) (by simp [results, Tryz.results28, go_sem, ocv, oc0]) rfl ⟨rfl, (Below.refl _ w).alloc (Nat.le_refl _) _⟩
    · have hy1 : ¬ y < 1 := by omega
      have hy2 : ¬ y ≤ highL L r.n - 8 := by omega
      by_cases hqq : ∃ q ∈ r.O, q.1 = y
      · obtain ⟨q, hq, rfl⟩ := hqq
        obtain ⟨_, o, hf, hob⟩ := s.out q hq
        have hl2 := s'.lookY hq hy
        have b0 : w.cell? ⟨q.2, 0, none⟩ = some (.int .i64 o.code) := cell_of_row w q.2 0 _ _ _ hob
        have b1 : w.cell? ⟨q.2, 1, none⟩ = some (.int .i64 o.pos) := cell_of_row w q.2 1 _ _ _ hob
        have b2 : w.cell? ⟨q.2, 2, none⟩ = some (.int .i64 o.first) := cell_of_row w q.2 2 _ _ _ hob
        have b3 : w.cell? ⟨q.2, 3, none⟩ = some (.int .i64 o.ver) := cell_of_row w q.2 3 _ _ _ hob
        have hbq := h.lt _ (h.fo r hr q hq).1
        rw [lookL_known hold hf]
        clear h h' s s' hob hf hold
        go_enter Tryz.func28, Tryz.ntmps28
        go_wp2_with fail
        exact bodyPost_ret (v := .tuple #[ocv o, .int .i64 1]) (by simp [results, Tryz.results28, go_sem, ocv]) rfl ⟨rfl, (Below.refl _ w).alloc (Nat.le_refl _) _⟩
      · have hn : ∀ q ∈ r.O, q.1 ≠ y := fun q hq e => hqq ⟨q, hq, e⟩
        have hf : findL L r.n y = none := by
          cases hf : findL L r.n y with
          | none => rfl
          | some o => exact absurd (s.all y o (by omega) hf) (fun ⟨q, hq, e⟩ => hn q hq e)
        have hl2 := s'.lookN hn hy
        rw [lookL_fresh hold hf]
        clear h h' s s' hf hqq hn hold
        go_enter Tryz.func28, Tryz.ntmps28
        go_wp2_with fail
        exact bodyPost_ret (v := .tuple #[ocv oc0, .int .i64 0]) (by simp [results, Tryz.results28, go_sem, ocv, oc0]) rfl ⟨rfl, (Below.refl _ w).alloc (Nat.le_refl _) _⟩
  · have hn : ∀ r ∈ R, r.n ≠ x := fun r hr e => hrow ⟨r, hr, e⟩
    have hz := highL_none (h.no_ses hn)
    have hf := findL_none (h.no_ses hn) y
    have hl := h'.lookN hn hx
    by_cases hy1 : y < 1
    · rw [lookL_old (.inl hy1)]
      clear h h' hn hrow hf hz
      go_enter Tryz.func28, Tryz.ntmps28
      go_wp2_with fail
      exact bodyPost_ret (v := .tuple #[ocv oc0, .int .i64 2]) (by simp [results, Tryz.results28, go_sem, ocv, oc0]) rfl ⟨rfl, (Below.refl _ w).alloc (Nat.le_refl _) _⟩
    · rw [lookL_fresh (by omega) hf]
      clear h h' hn hrow hf hz
      go_enter Tryz.func28, Tryz.ntmps28
      go_wp2_with fail
      exact bodyPost_ret (v := .tuple #[ocv oc0, .int .i64 0]) (by simp [results, Tryz.results28, go_sem, ocv, oc0]) rfl ⟨rfl, (Below.refl _ w).alloc (Nat.le_refl _) _⟩
end Go.Proofs.YtlfhokcjbgpjhaaGreatDoor.Ded
