/- The net: Take, Copy, Turn. Under the stated premises on sizes. -/
import Derived.Test.YtnooggfecgidcaaNetA
import Derived.Test.YtnooggfecgidcaaBlS
import Derived.StillTailTactics
namespace Go.Proofs.Ytnooggfecgidcaa
open Go.RowKit Go.Bl
attribute [local go_sem ↓] Go.wp_at_zero Go.wp_at_succ

section
variable {w w' : World} {p : Nat} {s : Nt} {F : Nat → Prop} {bm : Nat} {R : List (Nat × Pk)}
theorem NetIn.row (h : NetIn w p s F bm R) {q : Pk} (hq : q ∈ s.L) : ∃ b, (b, q) ∈ R := by
  rw [← h.rL] at hq
  obtain ⟨r, hr, rfl⟩ := List.mem_map.1 hq
  exact ⟨r.1, hr⟩
theorem NetIn.lookY (h : NetIn w p s F bm R) {b : Nat} {q : Pk} (hr : (b, q) ∈ R) {x : Int} (hx : i64 x) (he : q.no = x) : (Instr.lookup 58 (.map (some bm)) (.int .i64 x) false).run Try.prog w = .ok (.pointer (some ⟨b, 0, none⟩)) w := by
  subst he
  rw [h.look hx, getN_some h.map.1 hr]
  rfl
theorem NetIn.lookN (h : NetIn w p s F bm R) {x : Int} (hx : i64 x) (hn : ∀ q ∈ s.L, q.no ≠ x) : (Instr.lookup 58 (.map (some bm)) (.int .i64 x) false).run Try.prog w = .ok (.pointer none) w := by
  rw [h.look hx, getN_none (fun r hr => hn r.2 (by rw [← h.rL]; exact List.mem_map.2 ⟨r, hr, rfl⟩))]
  rfl
end
def zeroPk : List Value := [.int .i64 0, .int .i64 0, .int .i64 0, .string ⟨#[]⟩]

set_option maxHeartbeats 400000 in
theorem take_no (w : World) (p : Nat) (s : Nt) (F : Nat → Prop) (h : NetAt w p s F) (x : Int) (hx : i64 x) (hn : ∀ q ∈ s.L, q.no ≠ x) :
    Calls Try.prog 12 #[.pointer (some ⟨p, 0, none⟩), .int .i64 x] w fun e w' => e = .returned (.tuple #[.agg #[.int .i64 0, .int .i64 0, .int .i64 0, .string ⟨#[]⟩], .bool false]) ∧ Below w.heap.size w w' := by
  obtain ⟨bm, R, h⟩ := h
  have h' := h.keep ((Keeps.refl (fun _ => False) w).alloc (.cells #[.int .i64 0, .int .i64 0, .int .i64 0, .string ⟨#[]⟩] 32)) (fun _ _ => id)
  have c3 := h.c3
  have hl := h'.lookN hx hn
  have hp := h.lt p h.fp
  clear h h' hn
  go_enter Try.func12, Try.ntmps12
  go_wp2_with fail
  exact bodyPost_ret (v := .tuple #[.agg #[.int .i64 0, .int .i64 0, .int .i64 0, .string ⟨#[]⟩], .bool false]) (by simp [results, Try.results12, go_sem]) rfl ⟨rfl, (Below.refl _ w).alloc (Nat.le_refl _) _⟩

/-- What is left of a net when a number is taken. -/
def Nt.del (s : Nt) (x : Int) : Nt := { s with L := s.L.filter fun q => q.no ≠ x }
theorem Nt.Ok.del {s : Nt} (h : s.Ok) (x : Int) : (s.del x).Ok :=
  ⟨h.room1, h.room2, h.last0, h.lost0, by have := h.len; have := List.length_filter_le (fun q : Pk => decide (q.no ≠ x)) s.L; show ((s.L.filter _).length : Int) ≤ s.room; omega, h.rise.sublist List.filter_sublist,
   fun q hq => h.nos q (List.mem_filter.1 hq).1, fun q hq => h.txt q (List.mem_filter.1 hq).1⟩
theorem rowsN_del (R : List (Nat × Pk)) (x : Int) : (rowsN R).filter (fun r => decide (r.1 ≠ x)) = rowsN (R.filter fun r => r.2.no ≠ x) := by
  simp only [rowsN, List.filter_map]; rfl

set_option maxHeartbeats 400000 in
theorem take_yes (w : World) (p : Nat) (s : Nt) (F : Nat → Prop) (h : NetAt w p s F) (q : Pk) (hq : q ∈ s.L) (x : Int) (hx : i64 x) (he : q.no = x) :
    Calls Try.prog 12 #[.pointer (some ⟨p, 0, none⟩), .int .i64 x] w fun e w' => e = .returned (.tuple #[.agg #[.int .i64 q.no, .int .i64 q.frm, .int .i64 q.to, .string q.txt], .bool true]) ∧ Keeps F w w' ∧
      NetAt w' p (s.del x) F := by
  obtain ⟨bm, R, h⟩ := h
  obtain ⟨b, hb⟩ := h.row hq
  have hkA := (Keeps.refl (fun _ => False) w).alloc (.cells #[.int .i64 0, .int .i64 0, .int .i64 0, .string ⟨#[]⟩] 32)
  have h' := h.keep hkA (fun _ _ => id)
  have c3 := h.c3
  have hl := h'.lookY hb hx he
  have hp := h.lt p h.fp
  have hbl := h.lt b (h.fr _ hb)
  have hnew := heap_alloc_new w (.cells #[.int .i64 0, .int .i64 0, .int .i64 0, .string ⟨#[]⟩] 32)
  obtain ⟨w2, hrun, hmap, hgr, hsz, hdr⟩ := h'.map.delete lawI intLit_inj Try.underlying58 (x := x) (keyI hx) 0
  have hg := Keeps.of_grown hgr
  have hnbm : some bm ≠ some b := fun e => h.bm_row hb (by simpa using e.symm)
  have hblk := hg.grownTo (h'.rows _ hb) hnbm
  have b0 : w2.cell? ⟨b, 0, none⟩ = some (.int .i64 q.no) := cell_of_row w2 b 0 _ _ _ hblk
  have b1 : w2.cell? ⟨b, 1, none⟩ = some (.int .i64 q.frm) := cell_of_row w2 b 1 _ _ _ hblk
  have b2 : w2.cell? ⟨b, 2, none⟩ = some (.int .i64 q.to) := cell_of_row w2 b 2 _ _ _ hblk
  have b3 : w2.cell? ⟨b, 3, none⟩ = some (.string q.txt) := cell_of_row w2 b 3 _ _ _ hblk
  have hnbw : some bm ≠ some w.heap.size := fun e => by have := h.lt bm h.fm; simp at e; omega
  have hnw := hg.grownTo hnew hnbw
  have n0 : w2.cell? ⟨w.heap.size, 0, none⟩ = some (.int .i64 0) := cell_of_row w2 _ 0 _ _ _ hnw
  have n1 : w2.cell? ⟨w.heap.size, 1, none⟩ = some (.int .i64 0) := cell_of_row w2 _ 1 _ _ _ hnw
  have n2 : w2.cell? ⟨w.heap.size, 2, none⟩ = some (.int .i64 0) := cell_of_row w2 _ 2 _ _ _ hnw
  have n3 : w2.cell? ⟨w.heap.size, 3, none⟩ = some (.string ⟨#[]⟩) := cell_of_row w2 _ 3 _ _ _ hnw
  have f0 : ∀ o, w2.frozen? ⟨w.heap.size, o, none⟩ = false := fun o => frozen_block hnw o
  have hs2 : w2.heap.size = w.heap.size + 1 := by rw [hsz]; simp
  have H := Lib.hid h
  have HG := Lib.hid hg
  have HM := Lib.hid hmap
  have HKA := Lib.hid hkA
  have HN := Lib.hid hnw
  have HS := Lib.hid hs2
  have HE := Lib.hid he
  clear h h' hnew hg hmap hkA hblk hnw hnbm hnbw hgr hsz hdr hs2 he
  go_enter Try.func12, Try.ntmps12
  go_wp2_with fail
  refine bodyPost_ret (v := .tuple #[.agg #[.int .i64 q.no, .int .i64 q.frm, .int .i64 q.to, .string q.txt], .bool true]) (by simp [results, Try.results12, go_sem, n0, n1, n2, n3]) rfl ⟨rfl, ?_⟩
  have h := H.out
  have hk4 : Keeps (fun k => k = w.heap.size) w2 ((((w2.setCell ⟨w.heap.size, 0, none⟩ (.int .i64 q.no)).setCell ⟨w.heap.size, 1, none⟩ (.int .i64 q.frm)).setCell ⟨w.heap.size, 2, none⟩ (.int .i64 q.to)).setCell ⟨w.heap.size, 3, none⟩ (.string q.txt)) :=
    ((((Keeps.refl (fun k => k = w.heap.size) w2).setCell (p := ⟨w.heap.size, 0, none⟩) (fun _ => rfl) _).setCell (p := ⟨w.heap.size, 1, none⟩) (fun _ => rfl) _).setCell (p := ⟨w.heap.size, 2, none⟩) (fun _ => rfl) _).setCell (p := ⟨w.heap.size, 3, none⟩) (fun _ => rfl) _
  generalize (((w2.setCell ⟨w.heap.size, 0, none⟩ (.int .i64 q.no)).setCell ⟨w.heap.size, 1, none⟩ (.int .i64 q.frm)).setCell ⟨w.heap.size, 2, none⟩ (.int .i64 q.to)).setCell ⟨w.heap.size, 3, none⟩ (.string q.txt) = w4 at hk4
  have hk : Keeps (fun k => k = bm) w w4 := ((HKA.out.mono (G' := fun k => k = bm) (fun _ _ e => e.elim)).andThen (HG.out.mono (G' := fun k => k = bm) (fun k _ e => (by simpa using e.symm))) (fun _ _ e => e)).andThen hk4 (fun i hi e => by omega)
  have hlt : ∀ k, F k → k ≠ w.heap.size := fun k hk e => by have := h.lt k hk; omega
  have hmap := HM.out.keep hk4 (hlt bm h.fm)
  rw [rowsN_del] at hmap
  refine ⟨hk.mono (fun k _ e => e ▸ h.fm), bm, R.filter (fun r => r.2.no ≠ x), ?_⟩
  refine ⟨hk.grownTo h.blk h.bm_ne, ?_, hmap, fun r hr => hk.grownTo (h.rows r (List.mem_filter.1 hr).1) (h.bm_row (List.mem_filter.1 hr).1), ?_, h.fp, h.fm, fun r hr => h.fr r (List.mem_filter.1 hr).1, fun k hF => Nat.lt_of_lt_of_le (h.lt k hF) hk.size, h.ok.del x⟩
  · show _ = s.L.filter _
    rw [← h.rL, List.filter_map]
    rfl
  · exact h.dist.sublist (List.Sublist.cons_cons _ (List.Sublist.map _ List.filter_sublist))

def Nt.turn (s : Nt) (x : Int) (t : ByteArray) : Nt := { s with L := s.L.map fun q => if q.no = x then { q with txt := t } else q }
/-- One byte of a text, turned. -/
def turnB (t : ByteArray) (at_ : Nat) (by_ : Int) : ByteArray := ⟨t.data.modify at_ fun u => u ^^^ UInt8.ofNat by_.toNat⟩
theorem turnB_size (t : ByteArray) (k : Nat) (y : Int) : (turnB t k y).size = t.size := by
  show (t.data.modify k _).size = t.data.size
  simp
theorem turnB_at (t : ByteArray) (k : Nat) (y : Int) (j : Nat) : (turnB t k y).data[j]? = (t.data[j]?).map fun u => if j = k then u ^^^ UInt8.ofNat y.toNat else u := by
  show (t.data.modify k _)[j]? = _
  rw [Array.getElem?_modify]
  by_cases h : k = j
  · subst h; simp
  · simp [h, Ne.symm h]
theorem turn_val (u : UInt8) (y : Int) (h : 0 ≤ y ∧ y ≤ 255) : bits .xor .u8 (u.toNat : Int) y = ((u ^^^ UInt8.ofNat y.toNat).toNat : Int) := by
  have hu : u.toNat < 256 := u.toNat_lt
  rw [u8_xor _ _ (by omega) (by omega) h.1 (by omega), UInt8.toNat_xor, UInt8.toNat_ofNat', Nat.mod_eq_of_lt (by omega), Int.toNat_natCast]
theorem Nt.Ok.turn {s : Nt} (h : s.Ok) (x : Int) (t : ByteArray) (ht : t.size ≤ 8100) : (s.turn x t).Ok := by
  have hm : ∀ q ∈ (s.turn x t).L, ∃ q0 ∈ s.L, q.no = q0.no ∧ (q.txt = t ∨ q.txt = q0.txt) := by
    intro q hq
    obtain ⟨q0, hq0, rfl⟩ := List.mem_map.1 hq
    refine ⟨q0, hq0, ?_⟩
    by_cases he : q0.no = x
    · rw [if_pos he]; exact ⟨rfl, .inl rfl⟩
    · rw [if_neg he]; exact ⟨rfl, .inr rfl⟩
  refine ⟨h.room1, h.room2, h.last0, h.lost0, by show ((s.L.map _).length : Int) ≤ s.room; rw [List.length_map]; exact h.len, ?_, ?_, ?_⟩
  · show (s.L.map _).Pairwise _
    refine List.pairwise_map.2 (h.rise.imp fun {a b} hab => ?_)
    have e : ∀ q : Pk, (if q.no = x then { q with txt := t } else q).no = q.no := fun q => by split <;> rfl
    rw [e, e]; exact hab
  · intro q hq
    obtain ⟨q0, h0, e, _⟩ := hm q hq
    have := h.nos q0 h0
    rw [e]; exact this
  · intro q hq
    obtain ⟨q0, h0, _, e⟩ := hm q hq
    rcases e with e | e
    · rw [e]; exact ht
    · rw [e]; exact h.txt q0 h0

set_option maxHeartbeats 400000 in
theorem copy_no (w : World) (p : Nat) (s : Nt) (F : Nat → Prop) (h : NetAt w p s F) (x : Int) (hx : i64 x) (hn : ∀ q ∈ s.L, q.no ≠ x) :
    Calls Try.prog 11 #[.pointer (some ⟨p, 0, none⟩), .int .i64 x] w fun e w' => e = .returned (.tuple #[.int .i64 0, .int .i64 6]) ∧ w = w' := by
  obtain ⟨bm, R, h⟩ := h
  have c3 := h.c3
  have hl := h.lookN hx hn
  clear h hn
  go_enter Try.func11, Try.ntmps11
  go_wp2_with fail
  go_ret2
  exact ⟨rfl, rfl⟩

set_option maxHeartbeats 4000000 in
theorem copy_yes (w : World) (p : Nat) (s : Nt) (F : Nat → Prop) (h : NetAt w p s F) (q : Pk) (hq : q ∈ s.L) (x : Int) (hx : i64 x) (he : q.no = x) (hb1 : s.last ≤ 1000000000000) (hb2 : s.lost ≤ 1000000000000) :
    Calls Try.prog 11 #[.pointer (some ⟨p, 0, none⟩), .int .i64 x] w fun e w' => e = .returned (.tuple #[.int .i64 (s.send q.frm q.to q.txt).2.1, .int .i64 (s.send q.frm q.to q.txt).2.2]) ∧ Keeps F w w' ∧
      NetAt w' p (s.send q.frm q.to q.txt).1 (fun k => F k ∨ (w.heap.size ≤ k ∧ k < w'.heap.size)) := by
  have HA := Lib.hid h
  obtain ⟨bm, R, h⟩ := h
  obtain ⟨b, hb⟩ := h.row hq
  have c3 := h.c3
  have hl := h.lookY hb hx he
  have hblk := h.rows _ hb
  have b0 : w.cell? ⟨b, 0, none⟩ = some (.int .i64 q.no) := cell_of_row w b 0 _ _ _ hblk
  have b1 : w.cell? ⟨b, 1, none⟩ = some (.int .i64 q.frm) := cell_of_row w b 1 _ _ _ hblk
  have b2 : w.cell? ⟨b, 2, none⟩ = some (.int .i64 q.to) := cell_of_row w b 2 _ _ _ hblk
  have b3 : w.cell? ⟨b, 3, none⟩ = some (.string q.txt) := cell_of_row w b 3 _ _ _ hblk
  have hts := h.ok.txt q hq
  clear h hblk he
  go_enter Try.func11, Try.ntmps11
  go_wp2_with fail
  go_region_with (go_at_call 9; refine (send_any _ p s F HA.out.drew q.frm q.to q.txt (by unfold maxLen; omega) hb1 hb2).mono ?_; rintro e w2 ⟨rfl, hK, hN⟩; have HK := Lib.hid hK; have HN := Lib.hid hN; clear hK hN)
  all_goals go_wp2_with fail
  all_goals go_ret2
  all_goals exact ⟨rfl, ((Keeps.refl _ w).drew).trans HK.out, HN.out⟩

set_option maxHeartbeats 400000 in
theorem turn_no (w : World) (p : Nat) (s : Nt) (F : Nat → Prop) (h : NetAt w p s F) (x : Int) (hx : i64 x) (hn : ∀ q ∈ s.L, q.no ≠ x) (at_ by_ : Int) :
    Calls Try.prog 10 #[.pointer (some ⟨p, 0, none⟩), .int .i64 x, .int .i64 at_, .int .u8 by_] w fun e w' => e = .returned (.bool false) ∧ w = w' := by
  obtain ⟨bm, R, h⟩ := h
  have c3 := h.c3
  have hl := h.lookN hx hn
  clear h hn
  go_enter Try.func10, Try.ntmps10
  go_wp2_with fail
  go_ret
  exact ⟨rfl, rfl⟩

set_option maxHeartbeats 400000 in
theorem turn_out (w : World) (p : Nat) (s : Nt) (F : Nat → Prop) (h : NetAt w p s F) (q : Pk) (hq : q ∈ s.L) (x : Int) (hx : i64 x) (he : q.no = x) (at_ by_ : Int) (ho : at_ < 0 ∨ (q.txt.size : Int) ≤ at_) :
    Calls Try.prog 10 #[.pointer (some ⟨p, 0, none⟩), .int .i64 x, .int .i64 at_, .int .u8 by_] w fun e w' => e = .returned (.bool false) ∧ w = w' := by
  obtain ⟨bm, R, h⟩ := h
  obtain ⟨b, hb⟩ := h.row hq
  have c3 := h.c3
  have hl := h.lookY hb hx he
  have hblk := h.rows _ hb
  have b3 : w.cell? ⟨b, 3, none⟩ = some (.string q.txt) := cell_of_row w b 3 _ _ _ hblk
  have hts := h.ok.txt q hq
  clear h hblk he
  by_cases h1 : at_ < 0
  · have d1 : decide (at_ < 0) = true := by simpa using h1
    go_enter Try.func10, Try.ntmps10
    go_wp2_with fail
    go_ret
    exact ⟨rfl, rfl⟩
  · have d1 : decide (at_ < 0) = false := by simpa using h1
    have d2 : decide ((q.txt.size : Int) ≤ at_) = true := by simp; omega
    clear ho
    go_enter Try.func10, Try.ntmps10
    go_wp2_with fail
    go_ret
    exact ⟨rfl, rfl⟩

set_option maxHeartbeats 400000 in
theorem turn_in (w : World) (p : Nat) (s : Nt) (F : Nat → Prop) (h : NetAt w p s F) (q : Pk) (hq : q ∈ s.L) (x : Int) (hx : i64 x) (he : q.no = x) (k : Nat) (by_ : Int) (hk : k < q.txt.size) (hby : 0 ≤ by_ ∧ by_ ≤ 255) :
    Calls Try.prog 10 #[.pointer (some ⟨p, 0, none⟩), .int .i64 x, .int .i64 k, .int .u8 by_] w fun e w' => e = .returned (.bool true) ∧ Keeps F w w' ∧ NetAt w' p (s.turn x (turnB q.txt k by_)) F := by
  obtain ⟨bm, R, h⟩ := h
  obtain ⟨b, hb⟩ := h.row hq
  have c3 := h.c3
  have hl := h.lookY hb hx he
  have hblk := h.rows _ hb
  have b3 : w.cell? ⟨b, 3, none⟩ = some (.string q.txt) := cell_of_row w b 3 _ _ _ hblk
  have hts := h.ok.txt q hq
  have hbl := h.lt b (h.fr _ hb)
  have fb : w.frozen? ⟨b, 3, none⟩ = false := frozen_block hblk 3
  have d1 : decide ((k : Int) < 0) = false := by simp
  have d2 : decide ((q.txt.size : Int) ≤ (k : Int)) = false := by simp; omega
  obtain ⟨cap, w1, hconv, hcap, hsz1, hk1, hby1, hfr1⟩ := to_bytes (P := Try.prog) Try.underlying9 Try.underlying62 Try.underlying5 w q.txt
  have hkd : k < q.txt.data.size := hk
  have x1 : w1.cell? ⟨w.heap.size, k, none⟩ = some (.int .u8 (q.txt.data[k].toNat : Int)) := by
    have := hby1 k q.txt.data[k] (Array.getElem?_eq_getElem hkd)
    rwa [Nat.zero_add] at this
  have f1 := hfr1 k hk
  have g3 : w1.cell? ⟨b, 3, none⟩ = some (.string q.txt) := (hk1.cell (a := ⟨b, 3, none⟩) hbl id).trans b3
  have fb1 : w1.frozen? ⟨b, 3, none⟩ = false := (hk1.frozen (a := ⟨b, 3, none⟩) hbl id).trans fb
  have hbne : b ≠ w.heap.size := by omega
  have hback : (convert 62 9 (.slice (some ⟨w.heap.size, 0, none⟩) q.txt.size cap)).run Try.prog (w1.setCell ⟨w.heap.size, k, none⟩ (.int .u8 (bits .xor .u8 (q.txt.data[k].toNat : Int) by_))) = .ok (.string (turnB q.txt k by_)) _ :=
    from_bytes Try.underlying62 Try.underlying5 Try.underlying9 _ _ _ _ _ _ (turnB_size _ _ _) (fun j u hu => by
      rw [turnB_at] at hu
      obtain ⟨u0, hu0, rfl⟩ := Option.map_eq_some_iff.1 hu
      have hx := hby1 j u0 hu0
      by_cases e : j = k
      · subst e
        rw [if_pos rfl, Nat.zero_add, World.cell?_setCell_same _ _ _ x1, turn_val _ _ hby]
        rw [Array.getElem?_eq_getElem hkd] at hu0
        injection hu0 with hu0
        rw [hu0]
      · rw [if_neg e]
        rw [World.cell?_setCell_other _ _ _ _ (by simp)]
        exact hx)
  have H := Lib.hid h
  have HB := Lib.hid hblk
  have HE := Lib.hid he
  have HK1 := Lib.hid hk1
  have HBY := Lib.hid hby1
  have HSZ := Lib.hid hsz1
  clear h hblk he hk1 hby1 hsz1 hfr1
  go_enter Try.func10, Try.ntmps10
  go_wp2_with fail
  go_ret
  have h := H.out
  rw [turn_val _ _ hby]
  have hkk : Keeps (fun z => z = b) w ((w1.setCell ⟨w.heap.size, k, none⟩ (.int .u8 ((q.txt.data[k] ^^^ UInt8.ofNat by_.toNat).toNat : Int))).setCell ⟨b, 3, none⟩ (.string (turnB q.txt k by_))) :=
    ((HK1.out.mono (G' := fun z => z = b) (fun _ _ e => e.elim)).setCell (p := ⟨w.heap.size, k, none⟩) (fun e => absurd e (Nat.lt_irrefl _)) _).setCell (p := ⟨b, 3, none⟩) (fun _ => rfl) _
  have hnb : ((w1.setCell ⟨w.heap.size, k, none⟩ (.int .u8 ((q.txt.data[k] ^^^ UInt8.ofNat by_.toNat).toNat : Int))).setCell ⟨b, 3, none⟩ (.string (turnB q.txt k by_))).heap[b]? = some (.cells #[.int .i64 q.no, .int .i64 q.frm, .int .i64 q.to, .string (turnB q.txt k by_)] 32 (0, 0)) := by
    have h1 := HK1.out.grownTo HB.out id
    have h2 := (Below.heap_setCell w1 ⟨w.heap.size, k, none⟩ (.int .u8 ((q.txt.data[k] ^^^ UInt8.ofNat by_.toNat).toNat : Int)) b (fun e => hbne (by simpa using e))).trans h1
    exact setCell_block (o := 3) h2 _
  generalize (w1.setCell ⟨w.heap.size, k, none⟩ (.int .u8 ((q.txt.data[k] ^^^ UInt8.ofNat by_.toNat).toNat : Int))).setCell ⟨b, 3, none⟩ (.string (turnB q.txt k by_)) = w3 at hkk hnb ⊢
  have huniq : ∀ r ∈ R, r.1 = b → r = (b, q) := by
    intro r hr e
    by_cases e2 : r = (b, q)
    · exact e2
    · exfalso
      have h1 := getN_some h.map.1 hr
      have hd := (List.nodup_cons.1 h.dist).2
      have : ∀ (R : List (Nat × Pk)), (R.map Prod.fst).Nodup → ∀ r1 ∈ R, ∀ r2 ∈ R, r1.1 = r2.1 → r1 = r2 := by
        intro R hn
        induction R with
        | nil => intro r1 h1; cases h1
        | cons a R ih =>
          rw [List.map_cons, List.nodup_cons] at hn
          intro r1 h1 r2 h2 e
          rcases List.mem_cons.1 h1 with e1 | g1 <;> rcases List.mem_cons.1 h2 with e2 | g2
          · rw [e1, e2]
          · exact absurd (List.mem_map.2 ⟨r2, g2, by rw [← e, e1]⟩) hn.1
          · exact absurd (List.mem_map.2 ⟨r1, g1, by rw [e, e2]⟩) hn.1
          · exact ih hn.2 r1 g1 r2 g2 e
      exact e2 (this R hd r hr (b, q) hb e)
  have hno : ∀ r ∈ R, r.2.no = x → r = (b, q) := by
    intro r hr e
    have h1 := getN_some h.map.1 hr
    have h2 := getN_some h.map.1 hb
    rw [e] at h1
    rw [show (b, q).2.no = x from HE.out, h1] at h2
    refine huniq r hr ?_
    simpa [ptr] using h2
  refine ⟨rfl, hkk.mono (fun z _ e => e ▸ h.fr _ hb), bm, R.map (fun r => (r.1, if r.2.no = x then { r.2 with txt := turnB q.txt k by_ } else r.2)), ?_⟩
  refine ⟨hkk.grownTo h.blk (fun e => h.p_row hb e.symm), ?_, ?_, ?_, ?_, h.fp, h.fm, ?_, fun z hF => Nat.lt_of_lt_of_le (h.lt z hF) hkk.size, h.ok.turn x _ (by rw [turnB_size]; exact hts)⟩
  · show _ = s.L.map _
    rw [← h.rL, List.map_map, List.map_map]
    rfl
  · have : rowsN (R.map (fun r => (r.1, if r.2.no = x then { r.2 with txt := turnB q.txt k by_ } else r.2))) = rowsN R := by
      unfold rowsN
      rw [List.map_map]
      refine List.map_congr_left fun r _ => ?_
      show ((if r.2.no = x then { r.2 with txt := turnB q.txt k by_ } else r.2).no, ptr r.1) = (r.2.no, ptr r.1)
      split <;> rfl
    rw [this]
    exact h.map.keep hkk (fun e => h.bm_row hb e.symm)
  · intro r hr
    obtain ⟨r0, hr0, rfl⟩ := List.mem_map.1 hr
    by_cases e : r0.2.no = x
    · have := hno r0 hr0 e
      subst this
      simp only [if_pos e]
      exact hnb
    · simp only [if_neg e]
      exact hkk.grownTo (h.rows r0 hr0) (fun e2 => e (by rw [huniq r0 hr0 e2]; exact HE.out))
  · rw [List.map_map]
    exact h.dist
  · intro r hr
    obtain ⟨r0, hr0, rfl⟩ := List.mem_map.1 hr
    exact h.fr r0 hr0
end Go.Proofs.Ytnooggfecgidcaa
