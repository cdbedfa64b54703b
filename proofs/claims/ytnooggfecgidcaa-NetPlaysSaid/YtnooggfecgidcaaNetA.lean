/- The net: what a block of it holds; New, Len, Lost, Send. Under the stated premises on sizes. -/
import Derived.Test.YtnooggfecgidcaaProg
import Derived.Test.YtnooggfecgidcaaBlP
import Derived.Deep.RegionHeld3
import Derived.Deep.DrawnRows
namespace Go.Proofs.Ytnooggfecgidcaa
open Go.RowKit Go.Bl
attribute [local go_sem ↓] Go.wp_at_zero Go.wp_at_succ

structure Pk where
  no : Int
  frm : Int
  to : Int
  txt : ByteArray
  deriving DecidableEq
def pkc (p : Pk) : List Value := [.int .i64 p.no, .int .i64 p.frm, .int .i64 p.to, .string p.txt]
/-- A net: room, last number, how many were lost, what is on its way. -/
structure Nt where
  room : Int
  last : Int
  lost : Int
  L : List Pk
structure Nt.Ok (s : Nt) : Prop where
  room1 : 1 ≤ s.room
  room2 : s.room ≤ 1048576
  last0 : 0 ≤ s.last
  lost0 : 0 ≤ s.lost
  len : (s.L.length : Int) ≤ s.room
  rise : s.L.Pairwise (fun p q => p.no < q.no)
  nos : ∀ p ∈ s.L, 1 ≤ p.no ∧ p.no ≤ s.last
  txt : ∀ p ∈ s.L, p.txt.size ≤ 8100

def intLit (n : Int) : Lit := .int .i64 n
theorem intLit_inj (a b : Int) (h : intLit a = intLit b) : a = b := by simpa [intLit] using h
theorem lawI : Maps.Keyed Try.prog 3 := Maps.int_keyed Try.underlying3
def i64 (n : Int) : Prop := -9223372036854775808 ≤ n ∧ n ≤ 9223372036854775807
theorem i64_wf {n : Int} (h : i64 n) : (Lit.int .i64 n).wf = true := by
  have h1 : IntKind.i64.min = -9223372036854775808 := rfl
  have h2 : IntKind.i64.max = 9223372036854775807 := rfl
  simp only [Lit.wf, h1, h2, Bool.and_eq_true, decide_eq_true_eq]
  exact h
theorem keyI {n : Int} (h : i64 n) : keyOf Try.prog 3 (.int .i64 n) = some (intLit n) := Maps.keyOf_int_mk Try.underlying3 (i64_wf h)
theorem zeroPp (w : World) : (zeroValue 61).run Try.prog w = .ok (.pointer none) w := by kernel_rfl

def ptr (b : Nat) : Value := .pointer (some ⟨b, 0, none⟩)
def rowsN (R : List (Nat × Pk)) : List (Int × Value) := R.map fun r => (r.2.no, ptr r.1)

/-- Block p of w is a net; R: its packets and the blocks where they lie. -/
structure NetIn (w : World) (p : Nat) (s : Nt) (F : Nat → Prop) (bm : Nat) (R : List (Nat × Pk)) : Prop where
  blk : w.heap[p]? = some (.cells #[.int .i64 s.room, .int .i64 s.last, .int .i64 s.lost, .map (some bm)] 60 (0, 0))
  rL : R.map Prod.snd = s.L
  map : MapL w Try.prog 3 intLit bm (rowsN R)
  rows : ∀ r ∈ R, w.heap[r.1]? = some (.cells (pkc r.2).toArray 32 (0, 0))
  dist : (p :: R.map Prod.fst).Nodup
  fp : F p
  fm : F bm
  fr : ∀ r ∈ R, F r.1
  lt : ∀ k, F k → k < w.heap.size
  ok : s.Ok

def NetAt (w : World) (p : Nat) (s : Nt) (F : Nat → Prop) : Prop := ∃ bm R, NetIn w p s F bm R

section
variable {w w' : World} {p : Nat} {s : Nt} {F G : Nat → Prop} {bm : Nat} {R : List (Nat × Pk)}
theorem NetIn.keep (h : NetIn w p s F bm R) (hk : Keeps G w w') (hd : ∀ k, F k → ¬ G k) : NetIn w' p s F bm R :=
  ⟨hk.grownTo h.blk (hd _ h.fp), h.rL, h.map.keep hk (hd _ h.fm), fun r hr => hk.grownTo (h.rows r hr) (hd _ (h.fr r hr)), h.dist, h.fp, h.fm, h.fr, fun k hF => Nat.lt_of_lt_of_le (h.lt k hF) hk.size, h.ok⟩
theorem NetAt.keep (h : NetAt w p s F) (hk : Keeps G w w') (hd : ∀ k, F k → ¬ G k) : NetAt w' p s F := by
  obtain ⟨bm, R, h⟩ := h
  exact ⟨bm, R, h.keep hk hd⟩
theorem NetAt.fresh (h : NetAt w p s F) (hk : Below w.heap.size w w') : NetAt w' p s F := h.keep (Keeps.of_fresh hk fun _ => False) (fun _ _ => id)
theorem NetAt.drewN (h : NetAt w p s F) (n : Nat) : NetAt (w.drewN n) p s F := h.keep (G := fun _ => False) ((Keeps.refl _ _).drewN n) (fun _ _ => id)
theorem NetAt.drew (h : NetAt w p s F) : NetAt w.drew p s F := h.keep (G := fun _ => False) ((Keeps.refl _ _).drew) (fun _ _ => id)
theorem NetAt.mono {F' : Nat → Prop} (h : NetAt w p s F) (hF : ∀ k, F k → F' k) (hl : ∀ k, F' k → k < w.heap.size) : NetAt w p s F' := by
  obtain ⟨bm, R, h⟩ := h
  exact ⟨bm, R, h.blk, h.rL, h.map, h.rows, h.dist, hF _ h.fp, hF _ h.fm, fun r hr => hF _ (h.fr r hr), hl, h.ok⟩
theorem NetAt.ok (h : NetAt w p s F) : s.Ok := by obtain ⟨bm, R, h⟩ := h; exact h.ok
theorem NetAt.lt (h : NetAt w p s F) : ∀ k, F k → k < w.heap.size := by obtain ⟨bm, R, h⟩ := h; exact h.lt
theorem NetAt.fp (h : NetAt w p s F) : F p := by obtain ⟨bm, R, h⟩ := h; exact h.fp
theorem NetIn.c0 (h : NetIn w p s F bm R) : w.cell? ⟨p, 0, none⟩ = some (.int .i64 s.room) := cell_of_row w p 0 _ _ _ h.blk
theorem NetIn.c1 (h : NetIn w p s F bm R) : w.cell? ⟨p, 1, none⟩ = some (.int .i64 s.last) := cell_of_row w p 1 _ _ _ h.blk
theorem NetIn.c2 (h : NetIn w p s F bm R) : w.cell? ⟨p, 2, none⟩ = some (.int .i64 s.lost) := cell_of_row w p 2 _ _ _ h.blk
theorem NetIn.c3 (h : NetIn w p s F bm R) : w.cell? ⟨p, 3, none⟩ = some (.map (some bm)) := cell_of_row w p 3 _ _ _ h.blk
theorem NetIn.len (h : NetIn w p s F bm R) : R.length = s.L.length := by rw [← h.rL, List.length_map]
theorem rowsN_len (R : List (Nat × Pk)) : (rowsN R).length = R.length := by simp [rowsN]
theorem NetIn.maplen (h : NetIn w p s F bm R) (ty : TypeId) : (Builtin.len_ #[58] ty #[.map (some bm)]).run Try.prog w = .ok (.int .i64 s.L.length) w := by
  rw [h.map.len Try.underlying58 ty, rowsN_len, h.len]
theorem NetIn.look (h : NetIn w p s F bm R) {x : Int} (hx : i64 x) : (Instr.lookup 58 (.map (some bm)) (.int .i64 x) false).run Try.prog w = .ok ((getL (rowsN R) x).getD (.pointer none)) w :=
  h.map.look lawI Try.underlying58 zeroPp (keyI hx)
theorem getN_some (hn : (rowsN R).map Prod.fst |>.Nodup) {r : Nat × Pk} (hr : r ∈ R) : getL (rowsN R) r.2.no = some (ptr r.1) :=
  getL_of_mem hn (List.mem_map.2 ⟨r, hr, rfl⟩)
theorem getN_none {x : Int} (hr : ∀ r ∈ R, r.2.no ≠ x) : getL (rowsN R) x = none :=
  getL_none.2 fun q hq => by
    obtain ⟨r, hr', rfl⟩ := List.mem_map.1 hq
    exact hr r hr'
theorem NetIn.bm_ne (h : NetIn w p s F bm R) : p ≠ bm := fun e => h.map.not_cells (e ▸ h.blk)
theorem NetIn.bm_row (h : NetIn w p s F bm R) {r : Nat × Pk} (hr : r ∈ R) : r.1 ≠ bm := fun e => h.map.not_cells (e ▸ h.rows r hr)
theorem NetIn.p_row (h : NetIn w p s F bm R) {r : Nat × Pk} (hr : r ∈ R) : r.1 ≠ p := fun e => (List.nodup_cons.1 h.dist).1 (e ▸ List.mem_map.2 ⟨r, hr, rfl⟩)
end

set_option maxHeartbeats 400000 in
theorem new_ok (w : World) (room : Int) (h1 : 1 ≤ room) (h2 : room ≤ 1048576) : Calls Try.prog 8 #[.int .i64 room] w fun e w' => e = .returned (.tuple #[ptr (w.heap.size + 1), .int .i64 0]) ∧
    NetAt w' (w.heap.size + 1) ⟨room, 0, 0, []⟩ (fun k => w.heap.size ≤ k ∧ k < w'.heap.size) ∧ Below w.heap.size w w' := by
  have hmm := @run_makeMap Try.prog
  have d1 : decide (room < 1) = false := by simp; omega
  have d2 : decide ((1048576 : Int) < room) = false := by simp; omega
  go_enter Try.func8, Try.ntmps8
  go_wp2
  go_ret2
  refine ⟨rfl, ⟨w.heap.size, [], ?_⟩, ((Below.refl _ _).alloc (Nat.le_refl _) _).alloc (by simp) _⟩
  refine ⟨?_, rfl, ?_, by simp, by simp, by simp, by simp; omega, by simp, fun k hk => hk.2, ⟨h1, h2, Int.le_refl _, Int.le_refl _, by simp; omega, List.Pairwise.nil, by simp, by simp⟩⟩
  · have := heap_alloc_new (w.alloc (.map #[] 0)) (.cells #[.int .i64 room, .int .i64 0, .int .i64 0, .map (some w.heap.size)] 60)
    simpa using this
  · have := MapL.made w Try.prog 3 intLit
    simpa [rowsN] using this.keep (G := fun _ => False) ((Keeps.refl _ _).alloc _) id
theorem new_bad (w : World) (room : Int) (h : room < 1 ∨ 1048576 < room) : Calls Try.prog 8 #[.int .i64 room] w fun e w' => e = .returned (.tuple #[.pointer none, .int .i64 1]) ∧ w = w' := by
  by_cases h1 : room < 1
  · have d1 : decide (room < 1) = true := by simp; omega
    go_enter Try.func8, Try.ntmps8
    go_wp2
    go_ret2
    exact ⟨rfl, rfl⟩
  · have d1 : decide (room < 1) = false := by simp; omega
    have d2 : decide ((1048576 : Int) < room) = true := by simp; omega
    clear h
    go_enter Try.func8, Try.ntmps8
    go_wp2
    go_ret2
    exact ⟨rfl, rfl⟩

theorem len_any (w : World) (p : Nat) (s : Nt) (F : Nat → Prop) (h : NetAt w p s F) : Calls Try.prog 14 #[.pointer (some ⟨p, 0, none⟩)] w fun e w' => e = .returned (.int .i64 s.L.length) ∧ w = w' := by
  obtain ⟨bm, R, h⟩ := h
  have c3 := h.c3
  have hl := h.maplen
  clear h
  go_enter Try.func14, Try.ntmps14
  go_wp2
  go_ret
  exact ⟨rfl, rfl⟩
theorem lost_any (w : World) (p : Nat) (s : Nt) (F : Nat → Prop) (h : NetAt w p s F) : Calls Try.prog 17 #[.pointer (some ⟨p, 0, none⟩)] w fun e w' => e = .returned (.int .i64 s.lost) ∧ w = w' := by
  obtain ⟨bm, R, h⟩ := h
  have c2 := h.c2
  clear h
  go_enter Try.func17, Try.ntmps17
  go_wp2
  go_ret
  exact ⟨rfl, rfl⟩

/-- What Send makes of a net, and what it tells. -/
def Nt.send (s : Nt) (f t : Int) (x : ByteArray) : Nt × Int × Int :=
  if 8100 < x.size then (s, 0, 4) else if s.room ≤ (s.L.length : Int) then ({ s with lost := s.lost + 1 }, 0, 8) else ({ s with last := s.last + 1, L := s.L ++ [⟨s.last + 1, f, t, x⟩] }, s.last + 1, 0)

set_option maxHeartbeats 1000000 in
theorem send_any (w : World) (p : Nat) (s : Nt) (F : Nat → Prop) (h : NetAt w p s F) (f t : Int) (x : ByteArray) (hx : x.size ≤ maxLen) (hb1 : s.last ≤ 1000000000000) (hb2 : s.lost ≤ 1000000000000) :
    Calls Try.prog 9 #[.pointer (some ⟨p, 0, none⟩), .int .i64 f, .int .i64 t, .string x] w fun e w' => e = .returned (.tuple #[.int .i64 (s.send f t x).2.1, .int .i64 (s.send f t x).2.2]) ∧ Keeps F w w' ∧
      NetAt w' p (s.send f t x).1 (fun k => F k ∨ (w.heap.size ≤ k ∧ k < w'.heap.size)) := by
  obtain ⟨bm, R, h⟩ := h
  have hok := h.ok
  have c0 := h.c0
  have c1 := h.c1
  have c2 := h.c2
  have c3 := h.c3
  have hl := h.maplen
  have hlq : ∀ q ty, (Builtin.len_ #[58] ty #[.map (some bm)]).run Try.prog (w.drewN q) = .ok (.int .i64 s.L.length) (w.drewN q) := fun q ty => (h.keep ((Keeps.refl (fun _ => False) w).drewN q) (fun _ _ => id)).maplen ty
  have hp := h.lt p h.fp
  have hbm := h.lt bm h.fm
  have hne := h.bm_ne
  have hlen := h.len
  unfold maxLen at hx
  obtain ⟨r1, r2, l0, o0, ln, rise, nos, txts⟩ := hok
  have hf1 : w.frozen? ⟨p, 1, none⟩ = false := frozen_block h.blk 1
  have hf2 : w.frozen? ⟨p, 2, none⟩ = false := frozen_block h.blk 2
  have H := Lib.hid h
  have HL := Lib.hid hlen
  have Hrise := Lib.hid rise
  have Hnos := Lib.hid nos
  have Htxt := Lib.hid txts
  clear h hlen rise nos txts
  by_cases hsz : 8100 < x.size
  · have d0 : decide ((8100 : Int) < (x.size : Int)) = true := by simp; omega
    have hs : s.send f t x = (s, 0, 4) := by unfold Nt.send; rw [if_pos hsz]
    rw [hs]
    clear hs
    go_enter Try.func9, Try.ntmps9
    go_wp2_with fail
    go_ret2
    exact ⟨rfl, Keeps.refl _ _, (show NetAt w p s F from ⟨bm, R, H.out⟩).mono (fun k hk => .inl hk) (fun k hk => by rcases hk with hk | hk; exact H.out.lt k hk; exact hk.2)⟩
  · have d0 : decide ((8100 : Int) < (x.size : Int)) = false := by simp; omega
    by_cases hfull : s.room ≤ (s.L.length : Int)
    · have d1 : decide (s.room ≤ (s.L.length : Int)) = true := by simpa using hfull
      have hs : s.send f t x = ({ s with lost := s.lost + 1 }, 0, 8) := by unfold Nt.send; rw [if_neg hsz, if_pos hfull]
      rw [hs]
      clear hs
      go_enter Try.func9, Try.ntmps9
      go_wp2_with fail
      go_quiet (fail)
      go_wp2_with fail
      go_ret2
      have hkk : Keeps (fun q => q = p) w ((w.drewN nq).setCell ⟨p, 2, none⟩ (.int .i64 (s.lost + 1))) := ((Keeps.refl (fun q => q = p) w).drewN nq).setCell (p := ⟨p, 2, none⟩) (fun _ => rfl) _
      have hblk := setCell_block (o := 2) (show (w.drewN nq).heap[p]? = _ from H.out.blk) (.int .i64 (s.lost + 1))
      have h := H.out
      refine ⟨rfl, hkk.mono (fun k _ e => e ▸ h.fp), bm, R, ?_⟩
      refine ⟨hblk, h.rL, h.map.keep hkk (fun e => h.bm_ne e.symm), fun r hr => hkk.grownTo (h.rows r hr) (h.p_row hr), h.dist, .inl h.fp, .inl h.fm, fun r hr => .inl (h.fr r hr), ?_, ⟨h.ok.room1, h.ok.room2, h.ok.last0, by have := h.ok.lost0; show 0 ≤ s.lost + 1; omega, h.ok.len, h.ok.rise, h.ok.nos, h.ok.txt⟩⟩
      intro k hk
      rw [size_setCell] at hk ⊢
      rcases hk with hk | hk
      · exact h.lt k hk
      · exact hk.2
    · have d1 : decide (s.room ≤ (s.L.length : Int)) = false := by simpa using hfull
      have hs : s.send f t x = ({ s with last := s.last + 1, L := s.L ++ [⟨s.last + 1, f, t, x⟩] }, s.last + 1, 0) := by unfold Nt.send; rw [if_neg hsz, if_neg hfull]
      rw [hs]
      clear hs
      go_enter Try.func9, Try.ntmps9
      go_wp2_with fail
      go_quiet (fail)
      go_wp2_with fail
      have hkk : Keeps (fun q => q = p) w ((w.drewN nq).setCell ⟨p, 1, none⟩ (.int .i64 (s.last + 1))) := ((Keeps.refl (fun q => q = p) w).drewN nq).setCell (p := ⟨p, 1, none⟩) (fun _ => rfl) _
      have hblk := setCell_block (o := 1) (show (w.drewN nq).heap[p]? = _ from H.out.blk) (.int .i64 (s.last + 1))
      have hsz1 : ((w.drewN nq).setCell ⟨p, 1, none⟩ (.int .i64 (s.last + 1))).heap.size = w.heap.size := size_setCell _ _ _
      generalize (w.drewN nq).setCell ⟨p, 1, none⟩ (.int .i64 (s.last + 1)) = W1 at hkk hblk hsz1 ⊢
      have e1 : W1.cell? ⟨p, 1, none⟩ = some (.int .i64 (s.last + 1)) := cell_of_row W1 p 1 _ _ _ hblk
      have e3 : W1.cell? ⟨p, 3, none⟩ = some (.map (some bm)) := cell_of_row W1 p 3 _ _ _ hblk
      have hmap : MapL W1 Try.prog 3 intLit bm (rowsN R) := H.out.map.keep hkk (fun e => H.out.bm_ne e.symm)
      have HM := Lib.hid hmap
      have HB := Lib.hid hblk
      have HK := Lib.hid hkk
      have HZ := Lib.hid hsz1
      have hpbm : some p ≠ some bm := fun e => hne (by simpa using e)
      have hpl : p < W1.heap.size := by rw [hsz1]; exact hp
      clear hmap hblk hkk hsz1 c0 c1 c2 c3 hl hlq hf1 hf2
      go_region_held3 (fun x => x.cell? ⟨p, 1, none⟩ = some (.int .i64 (s.last + 1)) ∧ x.cell? ⟨p, 3, none⟩ = some (.map (some bm)))
        (first | go_keep | (go_split_ands; refine ⟨hgr2.cell ?_ hpbm, hgr2.cell ?_ hpbm⟩ <;> assumption))
        (first
          | (obtain ⟨w2, hrun, hmap2, hgr2, hsz2, hdr2⟩ := MapL.store (HM.out.keep ((((Keeps.refl (fun _ => False) W1).alloc (.cells #[.int .i64 (s.last + 1), .int .i64 f, .int .i64 t, .string x] 32)).drew)) id) lawI intLit_inj Try.underlying58 (by rw [rowsN_len, HL.out]; unfold maxLen; omega) (x := s.last + 1) (keyI (by unfold i64; omega)) (getN_none (fun r hr => by have := Hnos.out r.2 (by rw [← H.out.rL]; exact List.mem_map.2 ⟨r, hr, rfl⟩); omega)) (ptr W1.heap.size)
             unfold ptr at hrun
             rw [hrun]
             go_simp))
      all_goals go_wp2_with fail
      go_ret2
      have h := H.out
      have hg := Keeps.of_grown hgr2
      have hn1 : (W1.alloc (.cells #[.int .i64 (s.last + 1), .int .i64 f, .int .i64 t, .string x] 32)).drew.heap.size = W1.heap.size + 1 := by simp
      have hsz3 : w2.heap.size = w.heap.size + 1 := by rw [hsz2, hn1, HZ.out]
      have hnb : W1.heap.size ≠ bm := by rw [HZ.out]; omega
      have hnew : w2.heap[W1.heap.size]? = some (.cells #[.int .i64 (s.last + 1), .int .i64 f, .int .i64 t, .string x] 32 (0, 0)) :=
        hg.grownTo (show (W1.alloc (.cells #[.int .i64 (s.last + 1), .int .i64 f, .int .i64 t, .string x] 32)).drew.heap[W1.heap.size]? = _ from heap_alloc_new W1 _) (fun e => hnb (by simpa using e.symm))
      have hkA : Keeps (fun _ => False) W1 (W1.alloc (.cells #[.int .i64 (s.last + 1), .int .i64 f, .int .i64 t, .string x] 32)).drew := ((Keeps.refl _ W1).alloc _).drew
      have hbp : w2.heap[p]? = some (.cells #[.int .i64 s.room, .int .i64 (s.last + 1), .int .i64 s.lost, .map (some bm)] 60 (0, 0)) := hg.grownTo (hkA.grownTo HB.out id) (fun e => hpbm e.symm)
      have hK2 : Keeps (fun q => q = p ∨ q = bm) w w2 := (((HK.out.mono (fun _ _ e => .inl e)).alloc _).drew).grown hgr2 (fun k hk _ => .inr (by simpa using hk.symm))
      refine ⟨rfl, hK2.mono (fun k _ e => by rcases e with rfl | rfl; exact h.fp; exact h.fm), bm, R ++ [(W1.heap.size, ⟨s.last + 1, f, t, x⟩)], ?_⟩
      refine ⟨hbp, by simp [h.rL], by simpa [rowsN] using hmap2, ?_, ?_, .inl h.fp, .inl h.fm, ?_, ?_, ⟨h.ok.room1, h.ok.room2, by show 0 ≤ s.last + 1; omega, h.ok.lost0, by simp; omega, ?_, ?_, ?_⟩⟩
      · intro r hr
        rcases List.mem_append.1 hr with hr | hr
        · exact hK2.grownTo (h.rows r hr) (fun e => by rcases e with e | e; exact h.p_row hr e; exact h.bm_row hr e)
        · rw [List.mem_singleton] at hr
          subst hr
          exact hnew
      · rw [List.map_append, ← List.cons_append, List.nodup_append]
        refine ⟨h.dist, by simp, fun a ha b hb e => ?_⟩
        simp only [List.map_cons, List.map_nil, List.mem_singleton] at hb
        subst e hb
        rw [HZ.out] at ha
        rcases List.mem_cons.1 ha with e | ha
        · omega
        · obtain ⟨r, hr, e⟩ := List.mem_map.1 ha
          have := h.lt r.1 (h.fr r hr)
          omega
      · intro r hr
        rcases List.mem_append.1 hr with hr | hr
        · exact .inl (h.fr r hr)
        · rw [List.mem_singleton] at hr
          subst hr
          exact .inr ⟨by rw [HZ.out]; exact Nat.le_refl _, by rw [hsz3, HZ.out]; omega⟩
      · intro k hk
        rcases hk with hk | hk
        · have := h.lt k hk; omega
        · exact hk.2
      · show (s.L ++ [_]).Pairwise _
        refine List.pairwise_append.2 ⟨h.ok.rise, List.pairwise_singleton _ _, fun a ha b hb => ?_⟩
        rw [List.mem_singleton] at hb
        subst hb
        have := (h.ok.nos a ha).2
        show a.no < s.last + 1
        omega
      · intro q hq
        show 1 ≤ q.no ∧ q.no ≤ s.last + 1
        rcases List.mem_append.1 hq with hq | hq
        · have := h.ok.nos q hq; omega
        · rw [List.mem_singleton] at hq
          subst hq
          show 1 ≤ s.last + 1 ∧ s.last + 1 ≤ s.last + 1
          omega
      · intro q hq
        rcases List.mem_append.1 hq with hq | hq
        · exact h.ok.txt q hq
        · rw [List.mem_singleton] at hq
          subst hq
          show x.size ≤ 8100
          omega
end Go.Proofs.Ytnooggfecgidcaa
