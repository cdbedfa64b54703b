/- A state's bytes: snapshot.Put. Under the tables that utf8 lays. -/
import Derived.Test.YthebmbhdlkldiaaGreatDoorLayB
import Derived.Test.YthebmbhdlkldiaaGreatDoorNumP
import Derived.Lib.OthersKept
import Derived.Test.YthebmbhdlkldiaaGreatDoorBlL
import Derived.Test.YthebmbhdlkldiaaGreatDoorSnpP
import Derived.Test.YthebmbhdlkldiaaGreatDoorCodA
import Derived.Test.YthebmbhdlkldiaaGreatDoorCrcA
import Derived.Test.YthebmbhdlkldiaaGreatDoorParA
/- A strings.Builder that holds a list of bytes: WriteString, String. No condition but on sizes. -/
namespace Go.Proofs.YthebmbhdlkldiaaGreatDoor
open Go.RowKit Go.Bl

theorem bldX2 : Builder.Extra Tryz.prog Tryz.lays169_ren := { sizeBuilder := by kernel_rfl, liesBuilder := by kernel_rfl, t5 := Tryz.underlying5, a5 := Tryz.isAgg5, z5 := Tryz.sizeOf5, v5 := Tryz.zeroValue5, infoByte := by kernel_rfl, cellsByte := by kernel_rfl, sizeByte := by kernel_rfl, neB5 := by decide }
theorem bldSize : (Tryz.prog.info? 82).map (·.size) = some 2 := by kernel_rfl
theorem bldLies : liesAt Tryz.prog Tryz.prog.depth 82 (2 / Tryz.prog.cellsOf 82) 0 82 1 = true := by kernel_rfl
set_option maxHeartbeats 1000000 in
set_option maxRecDepth 100000 in
theorem copyCheck_used (b : Nat) (w : World) (h0 : w.cell? ⟨b, 0, none⟩ = some (.pointer (some ⟨b, 0, none⟩))) :
    Calls Tryz.prog 86 #[.pointer (some ⟨b, 0, none⟩)] w fun e w' => e = .returned (.tuple #[]) ∧ w' = w := by
  obtain ⟨j, hj, _⟩ := Option.map_eq_some_iff.1 bldSize
  go_enter Tryz.func86, Tryz.ntmps86
  go_wp2_with fail
  rw [Lib.run_neq_ptr_same w _ Tryz.underlying79 hj]
  go_wp2_with fail
  go_end0
  exact ⟨rfl, rfl⟩
set_option maxHeartbeats 1000000 in
set_option maxRecDepth 100000 in
theorem copyCheck_fresh (b : Nat) (w : World) (h0 : w.cell? ⟨b, 0, none⟩ = some (.pointer none)) (hsh : w.shape? b = some (82, 2)) (hfz : w.frozen? ⟨b, 0, none⟩ = false) :
    Calls Tryz.prog 86 #[.pointer (some ⟨b, 0, none⟩)] w fun e w' => e = .returned (.tuple #[]) ∧ w' = w.setCell ⟨b, 0, none⟩ (.pointer (some ⟨b, 0, none⟩)) := by
  obtain ⟨j, hj, hjs⟩ := Option.map_eq_some_iff.1 bldSize
  go_enter Tryz.func86, Tryz.ntmps86
  go_wp2_with fail
  rw [Lib.run_to_unsafe w ⟨b, 0, none⟩ Tryz.underlying79 Tryz.underlying199 hj (by rw [hjs]; decide) hsh (Nat.zero_lt_succ 1)]
  simp only [Result.andThen]
  rw [Oper.upon_value]
  go_wp2_with fail
  rw [run_callFunc_extern Tryz.func116 (by kernel_rfl) (by kernel_rfl) (by kernel_rfl) (e := Extern.AbiNoEscape.same) (by kernel_rfl)]
  rw [Lib.run_noEscape]
  simp only [Result.andThen]
  rw [Oper.upon_value]
  go_wp2_with fail
  rw [Lib.run_from_unsafe w ⟨b, 0, none⟩ Tryz.underlying199 Tryz.underlying79 hj hsh bldLies]
  simp only [Result.andThen]
  rw [Oper.upon_value]
  go_wp2_with fail
  go_end0
  exact ⟨rfl, rfl⟩
theorem copyCheck_f (B b : Nat) (bs : List Value) (w : World) (h : Lib.IsBuilderF 82 5 B b bs w) :
    Calls Tryz.prog 86 #[.pointer (some ⟨b, 0, none⟩)] w fun e w' => e = .returned (.tuple #[]) ∧ (Lib.BuilderAtF 82 5 B b (.pointer (some ⟨b, 0, none⟩)) bs w' ∧ Below B w w') := by
  rcases h with h | h
  · refine (copyCheck_fresh b w h.cell0 h.shape h.frozen0).mono ?_
    rintro e w' ⟨rfl, rfl⟩
    exact ⟨rfl, h.used _, (Below.refl B w).setCell (p := ⟨b, 0, none⟩) h.1 _⟩
  · refine (copyCheck_used b w h.cell0).mono ?_
    rintro e w' ⟨rfl, rfl⟩
    exact ⟨rfl, h, Below.refl B w'⟩
set_option maxHeartbeats 2000000 in
set_option maxRecDepth 100000 in
theorem writeString_f (B b : Nat) (bs : List Value) (s : ByteArray) (w : World) (h : Lib.IsBuilderF 82 5 B b bs w) (hlen : bs.length + s.size ≤ 140737488355328) (hBw : B ≤ w.heap.size) :
    Calls Tryz.prog 34 #[.pointer (some ⟨b, 0, none⟩), .string s] w fun e w' => e = .returned (.tuple #[.int .i64 s.size, .nilIface]) ∧ (Lib.BuilderAtF 82 5 B b (.pointer (some ⟨b, 0, none⟩)) (bs ++ Lib.strCells s) w' ∧ Below B w w') := by
  obtain ⟨i0, hi, hz0, hz1, hz2⟩ := info_parts bldX2.infoByte
  have HI := Lib.hid hi
  have H := Lib.hid h
  clear hi h
  go_enter Tryz.func34, Tryz.ntmps34
  go_wp2_with fail
  refine (copyCheck_f B b bs _ H.out).mono ?_
  rintro e w1 ⟨rfl, h1, hb1⟩
  obtain ⟨hB, v, hbk, hown, hne⟩ := h1
  have c0 : w1.cell? ⟨b, 0, none⟩ = some (.pointer (some ⟨b, 0, none⟩)) := by rw [Lib.cell_of_heap hbk]; rfl
  have c1 : w1.cell? ⟨b, 1, none⟩ = some v := by rw [Lib.cell_of_heap hbk]; rfl
  have HBK := Lib.hid hbk
  clear hbk
  go_wp2_with (at_builtin; refine Lib.wpList_append_own_stringF _ rfl _ _ 80 9 rfl B 5 i0 Tryz.underlying80 Tryz.underlying9 HI.out hz0 hz1 hz2 _ _ _ rfl hown s rfl ?c3 ?c4 ?c5 ?_)
  case c3 => unfold maxLen; omega
  case c4 => omega
  case c5 => have := hb1.size; omega
  intro v' w2 hown' hgrow _
  have hlt : b < w1.heap.size := (Array.getElem?_eq_some_iff.1 HBK.out).1
  have hb2 : w2.heap[b]? = some (.cells #[.pointer (some ⟨b, 0, none⟩), v] 82 (0, 0)) := by
    rw [hgrow.block b hlt (fun e => hne e.symm)]
    exact HBK.out
  have d0 : w2.cell? ⟨b, 0, none⟩ = some (.pointer (some ⟨b, 0, none⟩)) := by rw [Lib.cell_of_heap hb2]; rfl
  have d1 : w2.cell? ⟨b, 1, none⟩ = some v := by rw [Lib.cell_of_heap hb2]; rfl
  have f1 : w2.frozen? ⟨b, 1, none⟩ = false := Lib.frozen_of_heap hb2 1
  have HB2 := Lib.hid hb2
  clear hb2
  obtain ⟨ao, n', cap, rfl⟩ : ∃ ao n' cap, v' = .slice ao n' cap := by
    rcases hown'.2 with ⟨hv, _⟩ | ⟨g, cap, cur, fz, hv, _⟩
    · exact ⟨_, _, _, hv⟩
    · exact ⟨_, _, _, hv⟩
  go_wp2_with fail
  go_ret2
  refine ⟨rfl, ?_, ?_⟩
  · exact Lib.BuilderAtF.put (T := 82) (e := 5) hB HB2.out (bs' := bs ++ Lib.strCells s) (by simpa [Lib.strCells_length] using hown') (by decide)
  · exact (hb1.grown hgrow (by have := hb1.size; omega) (fun k hk => (hown.lt k hk).1)).setCell (p := ⟨b, 1, none⟩) hB _
/-- The builder at b, behind B, holds l. -/
def Bld (w : World) (B b : Nat) (l : List UInt8) : Prop := Lib.IsBuilderF 82 5 B b (Lib.byteCells l) w
theorem bld_new (w : World) : Bld (w.alloc (.cells #[.pointer none, .slice none 0 0] 82)) w.heap.size w.heap.size [] := Lib.IsBuilderF.of (Lib.fresh_isBuilder 82 5 w)
theorem bld_write {w : World} {B b : Nat} {l : List UInt8} (h : Bld w B b l) (s : ByteArray) (hs : l.length + s.size ≤ 140737488355328) (hB : B ≤ w.heap.size) :
    Calls Tryz.prog 34 #[.pointer (some ⟨b, 0, none⟩), .string s] w fun e w' => e = .returned (.tuple #[.int .i64 s.size, .nilIface]) ∧ Bld w' B b (l ++ Lb s) ∧ Below B w w' := by
  refine (writeString_f B b (Lib.byteCells l) s w h (by rw [Lib.byteCells_length]; exact hs) hB).mono ?_
  rintro e w' ⟨rfl, h1, hB1⟩
  refine ⟨rfl, ?_, hB1⟩
  rw [Lib.strCells_eq, ← Lib.byteCells_append] at h1
  exact .inr h1
theorem bld_string {w : World} {B b : Nat} {l : List UInt8} (h : Bld w B b l) (hB : B ≤ w.heap.size) :
    Calls Tryz.prog 40 #[.pointer (some ⟨b, 0, none⟩)] w fun e w' => e = .returned (.string (Bl l)) ∧ Bld w' B b l ∧ Below B w w' := Any.Builder_String_any_f Tryz.lays169 bldX2 B b l w h hB
theorem Bld.fresh {w w' : World} {B b : Nat} {l : List UInt8} (h : Bld w B b l) (hB : Below w.heap.size w w') : Bld w' B b l := by
  have hf : ∀ p, Lib.BuilderAtF 82 5 B b p (Lib.byteCells l) w → Lib.BuilderAtF 82 5 B b p (Lib.byteCells l) w' := by
    rintro p ⟨h1, v, h2, h3, h4⟩
    exact ⟨h1, v, (hB.block b (Array.getElem?_eq_some_iff.1 h2).1).trans h2, h3.kept (row := none) ⟨hB.os, hB.tape, hB.output, hB.size, fun k hk _ => hB.block k hk⟩ (by cases v.ownBlock <;> simp), h4⟩
  exact h.elim (fun x => .inl (hf _ x)) (fun x => .inr (hf _ x))
end Go.Proofs.YthebmbhdlkldiaaGreatDoor

/- A strings.Builder: what is beside it stands. No condition but on sizes. -/
namespace Go.Proofs.YthebmbhdlkldiaaGreatDoor
open Go.RowKit Go.Bl

theorem copyCheck_k (B b : Nat) (bs : List Value) (w : World) (h : Lib.IsBuilderF 82 5 B b bs w) :
    Calls Tryz.prog 86 #[.pointer (some ⟨b, 0, none⟩)] w fun e w' => e = .returned (.tuple #[]) ∧ (Lib.BuilderAtF 82 5 B b (.pointer (some ⟨b, 0, none⟩)) bs w' ∧ Below B w w' ∧ Lib.OthersKept 5 (some b) w w') := by
  rcases h with h | h
  · refine (copyCheck_fresh b w h.cell0 h.shape h.frozen0).mono ?_
    rintro e w' ⟨rfl, rfl⟩
    exact ⟨rfl, h.used _, (Below.refl B w).setCell (p := ⟨b, 0, none⟩) h.1 _, (Lib.OthersKept.refl _ _ w).setCell ⟨b, 0, none⟩ rfl _⟩
  · refine (copyCheck_used b w h.cell0).mono ?_
    rintro e w' ⟨rfl, rfl⟩
    exact ⟨rfl, h, Below.refl B w', Lib.OthersKept.refl _ _ _⟩
set_option maxHeartbeats 2000000 in
set_option maxRecDepth 100000 in
theorem writeString_k (B b : Nat) (bs : List Value) (s : ByteArray) (w : World) (h : Lib.IsBuilderF 82 5 B b bs w) (hlen : bs.length + s.size ≤ 140737488355328) (hBw : B ≤ w.heap.size) :
    Calls Tryz.prog 34 #[.pointer (some ⟨b, 0, none⟩), .string s] w fun e w' => e = .returned (.tuple #[.int .i64 s.size, .nilIface]) ∧ (Lib.BuilderAtF 82 5 B b (.pointer (some ⟨b, 0, none⟩)) (bs ++ Lib.strCells s) w' ∧ Below B w w' ∧ Lib.OthersKept 5 (some b) w w') := by
  obtain ⟨i0, hi, hz0, hz1, hz2⟩ := info_parts bldX2.infoByte
  have HI := Lib.hid hi
  have H := Lib.hid h
  clear hi h
  go_enter Tryz.func34, Tryz.ntmps34
  go_wp2_with fail
  refine (copyCheck_k B b bs _ H.out).mono ?_
  rintro e w1 ⟨rfl, h1, hb1, hk1⟩
  obtain ⟨hB, v, hbk, hown, hne⟩ := h1
  have c0 : w1.cell? ⟨b, 0, none⟩ = some (.pointer (some ⟨b, 0, none⟩)) := by rw [Lib.cell_of_heap hbk]; rfl
  have c1 : w1.cell? ⟨b, 1, none⟩ = some v := by rw [Lib.cell_of_heap hbk]; rfl
  have HBK := Lib.hid hbk
  have HK1 := Lib.hid hk1
  clear hbk hk1
  go_wp2_with (at_builtin; refine Lib.wpList_append_own_stringF _ rfl _ _ 80 9 rfl B 5 i0 Tryz.underlying80 Tryz.underlying9 HI.out hz0 hz1 hz2 _ _ _ rfl hown s rfl ?c3 ?c4 ?c5 ?_)
  case c3 => unfold maxLen; omega
  case c4 => omega
  case c5 => have := hb1.size; omega
  intro v' w2 hown' hgrow _
  have hlt : b < w1.heap.size := (Array.getElem?_eq_some_iff.1 HBK.out).1
  have hb2 : w2.heap[b]? = some (.cells #[.pointer (some ⟨b, 0, none⟩), v] 82 (0, 0)) := by
    rw [hgrow.block b hlt (fun e => hne e.symm)]
    exact HBK.out
  have d0 : w2.cell? ⟨b, 0, none⟩ = some (.pointer (some ⟨b, 0, none⟩)) := by rw [Lib.cell_of_heap hb2]; rfl
  have d1 : w2.cell? ⟨b, 1, none⟩ = some v := by rw [Lib.cell_of_heap hb2]; rfl
  have f1 : w2.frozen? ⟨b, 1, none⟩ = false := Lib.frozen_of_heap hb2 1
  have HB2 := Lib.hid hb2
  clear hb2
  obtain ⟨ao, n', cap, rfl⟩ : ∃ ao n' cap, v' = .slice ao n' cap := by
    rcases hown'.2 with ⟨hv, _⟩ | ⟨g, cap, cur, fz, hv, _⟩
    · exact ⟨_, _, _, hv⟩
    · exact ⟨_, _, _, hv⟩
  go_wp2_with fail
  go_ret2
  refine ⟨rfl, ?_, ?_, (HK1.out.grown hgrow (Lib.ownsRowF_kind hown)).setCell ⟨b, 1, none⟩ rfl _⟩
  · exact Lib.BuilderAtF.put (T := 82) (e := 5) hB HB2.out (bs' := bs ++ Lib.strCells s) (by simpa [Lib.strCells_length] using hown') (by decide)
  · exact (hb1.grown hgrow (by have := hb1.size; omega) (fun k hk => (hown.lt k hk).1)).setCell (p := ⟨b, 1, none⟩) hB _
theorem bld_writeK {w : World} {B b : Nat} {l : List UInt8} (h : Bld w B b l) (s : ByteArray) (hs : l.length + s.size ≤ 140737488355328) (hB : B ≤ w.heap.size) :
    Calls Tryz.prog 34 #[.pointer (some ⟨b, 0, none⟩), .string s] w fun e w' => e = .returned (.tuple #[.int .i64 s.size, .nilIface]) ∧ Bld w' B b (l ++ Lb s) ∧ Below B w w' ∧ Lib.OthersKept 5 (some b) w w' := by
  refine (writeString_k B b (Lib.byteCells l) s w h (by rw [Lib.byteCells_length]; exact hs) hB).mono ?_
  rintro e w' ⟨rfl, h1, hB1, hK1⟩
  refine ⟨rfl, ?_, hB1, hK1⟩
  rw [Lib.strCells_eq, ← Lib.byteCells_append] at h1
  exact .inr h1
/-- A block of cells that are no bytes stands. -/
theorem others_cells {w w' : World} {b k : Nat} {cs : Array Value} {t : TypeId} {fr : Nat × Nat} (h : Lib.OthersKept 5 (some b) w w') (hk : w.heap[k]? = some (.cells cs t fr)) (hkb : k ≠ b) (ht : t ≠ 5) : w'.heap[k]? = some (.cells cs t fr) :=
  h k _ hk (fun e => hkb (Option.some.inj e)) (fun c fz e => by
    have := (Obj.cells.inj e).2.1
    exact ht this)
end Go.Proofs.YthebmbhdlkldiaaGreatDoor

/- A strings.Builder whose row lies behind a place B, the builder ahead of it: what is between stands. No condition but on sizes. -/
namespace Go.Proofs.YthebmbhdlkldiaaGreatDoor
open Go.RowKit Go.Bl

/-- The builder at b holds l; its row lies behind B, itself ahead of B. -/
def Bld2 (w : World) (B b : Nat) (l : List UInt8) : Prop :=
  b < B ∧ B ≤ w.heap.size ∧ ∃ p v, (p = .pointer none ∨ p = .pointer (some ⟨b, 0, none⟩)) ∧ w.heap[b]? = some (.cells #[p, v] 82 (0, 0)) ∧ w.ownsRowF B 5 1 v l.length (Lib.byteCells l)
theorem ownsF_lower {w : World} {B B' : Nat} {e : TypeId} {size : Nat} {v : Value} {n : Nat} {xs : List Value} (h : w.ownsRowF B e size v n xs) (hB : B' ≤ B) : w.ownsRowF B' e size v n xs := by
  obtain ⟨h1, h2⟩ := h
  refine ⟨h1, h2.imp id ?_⟩
  rintro ⟨g, cap, cur, fz, e1, e2, e3⟩
  exact ⟨g, cap, cur, fz, e1, Nat.le_trans hB e2, e3⟩
theorem ownsF_keep {w w' : World} {B : Nat} {e : TypeId} {size : Nat} {v : Value} {n : Nat} {xs : List Value} (h : w.ownsRowF B e size v n xs) (hk : ∀ g, v.ownBlock = some g → w'.heap[g]? = w.heap[g]?) : w'.ownsRowF B e size v n xs := by
  obtain ⟨h1, h2⟩ := h
  refine ⟨h1, h2.imp id ?_⟩
  rintro ⟨g, cap, cur, fz, rfl, e2, e3, e4⟩
  exact ⟨g, cap, cur, fz, rfl, e2, (hk g rfl).trans e3, e4⟩
theorem Bld2.bld {w : World} {B b : Nat} {l : List UInt8} (h : Bld2 w B b l) : Bld w b b l := by
  obtain ⟨h1, h2, p, v, hp, hb, ho⟩ := h
  have ho' := ownsF_lower ho (Nat.le_of_lt h1)
  have hne := Lib.ownBlock_neF ho hb (by decide)
  rcases hp with rfl | rfl
  · exact .inl ⟨Nat.le_refl _, v, hb, by rw [Lib.byteCells_length]; exact ho', hne⟩
  · exact .inr ⟨Nat.le_refl _, v, hb, by rw [Lib.byteCells_length]; exact ho', hne⟩
theorem Bld2.new {w : World} {B b : Nat} (hb : w.heap[b]? = some (.cells #[.pointer none, .slice none 0 0] 82 (0, 0))) (hB : b < B) (hw : B ≤ w.heap.size) : Bld2 w B b [] :=
  ⟨hB, hw, _, _, .inl rfl, hb, World.ownsRowF_nil _ _ _ _⟩
/-- What turns neither the builder nor its bytes. -/
theorem Bld2.fresh {w w' : World} {B b : Nat} {l : List UInt8} (h : Bld2 w B b l) (hB : Below w.heap.size w w') : Bld2 w' B b l := by
  obtain ⟨h1, h2, p, v, hp, hb, ho⟩ := h
  exact ⟨h1, Nat.le_trans h2 hB.size, p, v, hp, (hB.block b (Array.getElem?_eq_some_iff.1 hb).1).trans hb, ownsF_keep ho (fun g hg => hB.block g (ho.lt g hg).2)⟩
theorem Bld2.lt {w : World} {B b : Nat} {l : List UInt8} (h : Bld2 w B b l) : b < B := h.1
set_option maxHeartbeats 2000000 in
set_option maxRecDepth 100000 in
theorem Bld2.write {w : World} {B b : Nat} {l : List UInt8} (h : Bld2 w B b l) (s : ByteArray) (hs : l.length + s.size ≤ 140737488355328) :
    Calls Tryz.prog 34 #[.pointer (some ⟨b, 0, none⟩), .string s] w fun e w' => e = .returned (.tuple #[.int .i64 s.size, .nilIface]) ∧ Bld2 w' B b (l ++ Lb s) ∧ Keeps (fun k => k = b ∨ B ≤ k) w w' ∧ Lib.OthersKept 5 (some b) w w' := by
  obtain ⟨i0, hi, hz0, hz1, hz2⟩ := info_parts bldX2.infoByte
  have hF := h.bld
  obtain ⟨hbB, hBw, p, v, hp, hb, ho⟩ := h
  have hcc : Calls Tryz.prog 86 #[.pointer (some ⟨b, 0, none⟩)] w fun e w1 => e = .returned (.tuple #[]) ∧ w1.heap[b]? = some (.cells #[.pointer (some ⟨b, 0, none⟩), v] 82 (0, 0)) ∧ w1.ownsRowF B 5 1 v l.length (Lib.byteCells l) ∧ Keeps (fun k => k = b ∨ B ≤ k) w w1 ∧ Lib.OthersKept 5 (some b) w w1 := by
    rcases hp with rfl | rfl
    · have hA : Lib.BuilderAtF 82 5 b b (.pointer none) (Lib.byteCells l) w := ⟨Nat.le_refl _, v, hb, by rw [Lib.byteCells_length]; exact ownsF_lower ho (Nat.le_of_lt hbB), Lib.ownBlock_neF ho hb (by decide)⟩
      refine (copyCheck_fresh b w hA.cell0 hA.shape hA.frozen0).mono ?_
      rintro e w' ⟨rfl, rfl⟩
      have hk : Keeps (fun k => k = b ∨ B ≤ k) w (w.setCell ⟨b, 0, none⟩ (.pointer (some ⟨b, 0, none⟩))) := (Keeps.refl _ w).setCell (p := ⟨b, 0, none⟩) (fun _ => .inl rfl) _
      refine ⟨rfl, setCell_block' (o := 0) hb _, ownsF_keep ho (fun g hg => ?_), hk, (Lib.OthersKept.refl _ _ w).setCell ⟨b, 0, none⟩ rfl _⟩
      exact Below.heap_setCell _ _ _ _ (fun e => by have := (ho.lt g hg).1; have e : g = b := e; omega)
    · have hA : Lib.BuilderAtF 82 5 b b (.pointer (some ⟨b, 0, none⟩)) (Lib.byteCells l) w := ⟨Nat.le_refl _, v, hb, by rw [Lib.byteCells_length]; exact ownsF_lower ho (Nat.le_of_lt hbB), Lib.ownBlock_neF ho hb (by decide)⟩
      refine (copyCheck_used b w hA.cell0).mono ?_
      rintro e w' ⟨rfl, rfl⟩
      exact ⟨rfl, hb, ho, Keeps.refl _ _, Lib.OthersKept.refl _ _ _⟩
  have HI := Lib.hid hi
  have HCC := Lib.hid hcc
  have HBB := Lib.hid hbB
  clear hi hF ho hb hp hcc
  go_enter Tryz.func34, Tryz.ntmps34
  go_wp2_with fail
  refine HCC.out.mono ?_
  rintro e w1 ⟨rfl, hbk, hown, hk1, ho1⟩
  have c0 : w1.cell? ⟨b, 0, none⟩ = some (.pointer (some ⟨b, 0, none⟩)) := by rw [Lib.cell_of_heap hbk]; rfl
  have c1 : w1.cell? ⟨b, 1, none⟩ = some v := by rw [Lib.cell_of_heap hbk]; rfl
  have hsz1 := hk1.size
  have HBK := Lib.hid hbk
  have HK1 := Lib.hid hk1
  have HO1 := Lib.hid ho1
  clear hbk hk1 ho1
  go_wp2_with (at_builtin; refine Lib.wpList_append_own_stringF _ rfl _ _ 80 9 rfl B 5 i0 Tryz.underlying80 Tryz.underlying9 HI.out hz0 hz1 hz2 _ _ _ rfl hown s rfl ?c3 ?c4 ?c5 ?_)
  case c3 => unfold maxLen; omega
  case c4 => omega
  case c5 => omega
  intro v' w2 hown' hgrow _
  have hlt : b < w1.heap.size := (Array.getElem?_eq_some_iff.1 HBK.out).1
  have hne : v.ownBlock ≠ some b := Lib.ownBlock_neF hown HBK.out (by decide)
  have hb2 : w2.heap[b]? = some (.cells #[.pointer (some ⟨b, 0, none⟩), v] 82 (0, 0)) := by
    rw [hgrow.block b hlt (fun e => hne e.symm)]
    exact HBK.out
  have d0 : w2.cell? ⟨b, 0, none⟩ = some (.pointer (some ⟨b, 0, none⟩)) := by rw [Lib.cell_of_heap hb2]; rfl
  have d1 : w2.cell? ⟨b, 1, none⟩ = some v := by rw [Lib.cell_of_heap hb2]; rfl
  have f1 : w2.frozen? ⟨b, 1, none⟩ = false := Lib.frozen_of_heap hb2 1
  have HB2 := Lib.hid hb2
  clear hb2
  obtain ⟨ao, n', cap, rfl⟩ : ∃ ao n' cap, v' = .slice ao n' cap := by
    rcases hown'.2 with ⟨hv, _⟩ | ⟨g, cap, cur, fz, hv, _⟩
    · exact ⟨_, _, _, hv⟩
    · exact ⟨_, _, _, hv⟩
  go_wp2_with fail
  go_ret2
  have hne2 := Lib.ownBlock_neF hown' HB2.out (by decide)
  refine ⟨rfl, ⟨HBB.out, ?_, _, _, .inr rfl, setCell_block' (o := 1) HB2.out _, ownsF_keep (?_ : w2.ownsRowF B 5 1 _ (l ++ Lb s).length (Lib.byteCells (l ++ Lb s))) (fun g hg => Below.heap_setCell _ _ _ _ (fun e => hne2 (by rw [hg]; exact congrArg some (show g = b from e))))⟩, ?_, (HO1.out.grown hgrow (Lib.ownsRowF_kind hown)).setCell ⟨b, 1, none⟩ rfl _⟩
  · have := hgrow.size
    simp [World.setCell]
    omega
  · rw [Lib.byteCells_append, List.length_append, Lb_len, show Lib.byteCells (Lb s) = Lib.strCells s from (Lib.strCells_eq s).symm]
    exact hown'
  · exact (HK1.out.grown hgrow (fun k hk _ => .inr (hown.lt k hk).1)).setCell (p := ⟨b, 1, none⟩) (fun _ => .inl rfl) _
theorem Bld2.string {w : World} {B b : Nat} {l : List UInt8} (h : Bld2 w B b l) :
    Calls Tryz.prog 40 #[.pointer (some ⟨b, 0, none⟩)] w fun e w' => e = .returned (.string (Bl l)) ∧ Bld w' b b l ∧ Below b w w' :=
  bld_string h.bld (by have := h.1; have := h.2.1; omega)
end Go.Proofs.YthebmbhdlkldiaaGreatDoor

/- A state's bytes: event.Put, snapshot.Put. Under the tables that utf8 lays. -/
namespace Go.Proofs.YthebmbhdlkldiaaGreatDoor
open Go.RowKit Go.Bl
attribute [local go_sem ↓] Go.wp_at_zero Go.wp_at_succ

theorem eput_ok (w : World) (hT : Tabs w) (e : Ev) (he : rightE e = true) :
    Calls Tryz.prog 37 #[.agg #[.string e.kind, .string e.data]] w fun x w' => x = .returned (.string (Bl (evbL e))) ∧ Below w.heap.size w w' := by
  obtain ⟨h1, h2⟩ := rightE_sizes he
  have hB0 : Below w.heap.size w (w.alloc (.cells #[.string e.kind, .string e.data] 77)) := (Below.refl _ w).alloc (Nat.le_refl _) _
  have hblk := heap_alloc_new w (.cells #[.string e.kind, .string e.data] 77)
  have HTb := Lib.hid hT
  have HE := Lib.hid he
  clear hT he
  go_enter Tryz.func37, Tryz.ntmps37
  go_upto_region 1 with (fail)
  generalize w.alloc (.cells #[.string e.kind, .string e.data] 77) = w1 at hB0 hblk ⊢
  have x0 : w1.cell? ⟨w.heap.size, 0, none⟩ = some (.string e.kind) := cell_of_row w1 _ 0 _ _ _ hblk
  have x1 : w1.cell? ⟨w.heap.size, 1, none⟩ = some (.string e.data) := cell_of_row w1 _ 1 _ _ _ hblk
  have hc := eright_any w1 (HTb.out.fresh hB0) e ⟨by omega, by omega⟩
  rw [HE.out] at hc
  have HC := Lib.hid hc
  have HB0 := Lib.hid hB0
  have HBK := Lib.hid hblk
  clear hc hB0 hblk
  go_wp2_with fail
  refine HC.out.mono ?_
  rintro x w2 ⟨rfl, hB2⟩
  have hb2 := (Keeps.of_fresh hB2 (fun _ => False)).grownTo HBK.out id
  have x0 : w2.cell? ⟨w.heap.size, 0, none⟩ = some (.string e.kind) := cell_of_row w2 _ 0 _ _ _ hb2
  have x1 : w2.cell? ⟨w.heap.size, 1, none⟩ = some (.string e.data) := cell_of_row w2 _ 1 _ _ _ hb2
  have HB2 := Lib.hid (HB0.out.trans (hB2.mono HB0.out.size))
  clear hB2 hb2
  go_wp2_with fail
  refine (ebytes_any w2 e (by omega) (by omega)).mono ?_
  rintro x w3 ⟨rfl, hB3⟩
  have HB3 := Lib.hid (HB2.out.trans (hB3.mono HB2.out.size))
  clear hB3
  go_wp2_with fail
  go_ret
  exact ⟨rfl, HB3.out⟩
theorem oth_fresh {w w' : World} {t : TypeId} {b : Option Nat} (hB : Below w.heap.size w w') : Lib.OthersKept t b w w' := fun k _ hk _ _ => (hB.block k (Array.getElem?_eq_some_iff.1 hk).1).trans hk
set_option maxRecDepth 8000 in
set_option maxHeartbeats 1000000 in
theorem putc_any (w : World) (B b : Nat) (l : List UInt8) (hb : Bld2 w B b l) (g n : Nat) (cs : Array Value) (fr : Nat × Nat) (ns : List Int) (hg : w.heap[g]? = some (.cells cs 3 fr)) (hcs : cs.toList = ns.map (fun n => .int .i64 n)) (hnl : ns.length = n)
    (hn : ∀ n ∈ ns, 0 ≤ n ∧ n ≤ 274877906944) (hlen : l.length ≤ 100000000) (hn2 : n ≤ 1000) :
    Calls Tryz.prog 33 #[.slice (some ⟨g, 0, none⟩) n n, .pointer (some ⟨b, 0, none⟩)] w fun e w' => e = .returned (.tuple #[]) ∧ Bld2 w' B b (l ++ numsL ns) ∧ Keeps (fun k => k = b ∨ B ≤ k) w w' ∧ Lib.OthersKept 5 (some b) w w' := by
  subst hnl
  have hgb : g ≠ b := fun e => by
    obtain ⟨_, _, p, v, _, hb, _⟩ := hb
    rw [e, hb] at hg
    simp only [Option.some.injEq, Obj.cells.injEq] at hg
    exact absurd hg.2.1 (by decide)
  have HG := Lib.hid hg
  have HB := Lib.hid hb
  have HN := Lib.hid hn
  have HCS := Lib.hid hcs
  clear hg hb hn hcs
  go_enter Tryz.func33, Tryz.ntmps33
  go_wp2_with fail
  go_loopw [4, 7] (fun _ i wr => ∃ k : Nat, k ≤ ns.length ∧ i = .int .i64 k ∧ Bld2 wr B b (l ++ numsL (ns.take k)) ∧ Keeps (fun k => k = b ∨ B ≤ k) w wr ∧ Lib.OthersKept 5 (some b) w wr) (fun _ i _ => ns.length - (intOf i).toNat)
  case atStart => exact ⟨0, Nat.zero_le _, rfl, by simpa [numsL] using HB.out, Keeps.refl _ _, Lib.OthersKept.refl _ _ _⟩
  case round =>
    obtain ⟨k, hk, rfl, hb, hkp, hot⟩ := hrel
    have HBw := Lib.hid hb
    have HKw := Lib.hid hkp
    have HOw := Lib.hid hot
    clear hb hkp hot
    by_cases hlt : k < ns.length
    · have d0 : decide ((k : Int) < (ns.length : Int)) = true := decide_eq_true (by omega)
      have hgw := others_cells HOw.out HG.out hgb (by decide)
      have x0 : wr.cell? ⟨g, k, none⟩ = some (.int .i64 ns[k]) := by
        rw [cell_of_row wr g k _ _ _ hgw, ← Array.getElem?_toList, HCS.out, List.getElem?_map, List.getElem?_eq_getElem hlt]
        rfl
      have hnk := HN.out ns[k] (List.getElem_mem hlt)
      have hlen2 : (numsL (ns.take k)).length ≤ 6000 := by
        have := numsL_len (l := ns.take k) (fun n hn => HN.out n (List.mem_of_mem_take hn))
        rw [List.length_take] at this
        have h2 : min k ns.length * 6 ≤ 1000 * 6 := Nat.mul_le_mul_right _ (by omega)
        omega
      have hl6 := numL_len (n := (ns[k]).toNat) (by omega)
      have HTK := Lib.hid (show numsL (ns.take k) ++ numL (ns[k]).toNat = numsL (ns.take (k + 1)) by
        rw [List.take_succ_eq_append_getElem hlt]
        unfold numsL
        rw [List.flatMap_append, List.flatMap_cons, List.flatMap_nil, List.append_nil])
      obtain ⟨x, hx⟩ : ∃ x, x = ns[k] := ⟨_, rfl⟩
      rw [← hx] at x0 hnk hl6 HTK
      have HC := Lib.hid (put_in wr x hnk.1 (by omega))
      clear hx hgw
      go_wp2_with fail
      refine HC.out.mono ?_
      rintro e w1 ⟨rfl, hB1⟩
      have HB1 := Lib.hid hB1
      have HC2 := Lib.hid ((HBw.out.fresh hB1).write (Bl (numL x.toNat)) (by rw [List.length_append, Bl_size]; omega))
      clear hB1
      go_wp2_with fail
      refine HC2.out.mono ?_
      rintro e w2 ⟨rfl, hbl, hkp, hot⟩
      rw [Lb_Bl, List.append_assoc, HTK.out] at hbl
      have HB2 := Lib.hid hbl
      have HK2 := Lib.hid ((HKw.out.fresh HB1.out).trans hkp)
      have HO2 := Lib.hid ((HOw.out.trans (oth_fresh HB1.out)).trans hot)
      clear hbl hkp hot
      go_wp2_with fail
      go_roundw
      case rel => exact ⟨k + 1, hlt, by go_num, HB2.out, HK2.out, HO2.out⟩
      case measure => simp [intOf]; omega
    · have hkl : k = ns.length := by omega
      subst hkl
      have d0 : decide ((ns.length : Int) < (ns.length : Int)) = false := by simp
      have hb := HBw.out
      rw [List.take_length] at hb
      have HBe := Lib.hid hb
      clear hb
      go_wp2_with fail
      go_end0
      exact ⟨rfl, HBe.out, HKw.out, HOw.out⟩
end Go.Proofs.YthebmbhdlkldiaaGreatDoor

namespace Go.Proofs.YthebmbhdlkldiaaGreatDoor
open Go.RowKit Go.Bl
attribute [local go_sem ↓] Go.wp_at_zero Go.wp_at_succ

theorem flat_take_le {α : Type} (f : α → List UInt8) (l : List α) (k : Nat) : ((l.take k).flatMap f).length ≤ (l.flatMap f).length := by
  conv => rhs; rw [← List.take_append_drop k l]
  rw [List.flatMap_append, List.length_append]
  omega
theorem flat_take_succ {α : Type} (f : α → List UInt8) {l : List α} {k : Nat} (h : k < l.length) : (l.take (k + 1)).flatMap f = (l.take k).flatMap f ++ f l[k] := by
  rw [List.take_succ_eq_append_getElem h, List.flatMap_append, List.flatMap_cons, List.flatMap_nil, List.append_nil]
theorem numsL_one (a : Int) : numsL [a] = numL a.toNat := by
  unfold numsL
  rw [List.flatMap_cons, List.flatMap_nil, List.append_nil]
theorem numsL_two (a b : Int) : numsL [a, b] = numL a.toNat ++ numL b.toNat := by
  unfold numsL
  rw [List.flatMap_cons, List.flatMap_cons, List.flatMap_nil, List.append_nil]
/-- The builder at b, ahead of B, holds l; of what was ahead of B nothing else is turned. -/
structure PW (w3 : World) (B b : Nat) (l : List UInt8) (wr : World) : Prop where
  bld : Bld2 wr B b l
  keep : Keeps (fun k => k = b ∨ B ≤ k) w3 wr
theorem PW.fresh {w3 wr wx : World} {B b : Nat} {l : List UInt8} (h : PW w3 B b l wr) (hB : Below wr.heap.size wr wx) : PW w3 B b l wx := ⟨h.bld.fresh hB, h.keep.fresh hB⟩
theorem PW.wrote {w3 wr wx : World} {B b : Nat} {l l' : List UInt8} (h : PW w3 B b l wr) (h1 : Bld2 wx B b l') (h2 : Keeps (fun k => k = b ∨ B ≤ k) wr wx) : PW w3 B b l' wx := ⟨h1, h.keep.trans h2⟩
theorem PW.tabs {w3 wr : World} {B b : Nat} {l : List UInt8} (h : PW w3 B b l wr) (hT : Tabs w3) (hb : 2 ≤ b) : Tabs wr := hT.keep h.keep (fun k hk => by have := h.bld.1; omega) hT.lt
set_option maxRecDepth 20000 in
set_option maxHeartbeats 8000000 in
theorem snapPut_any (w : World) (hT : Tabs w) (p : Nat) (s : St) (F W : Nat → Prop) (h : StAt w p s F W) (hr : Rch s) (hL : s.L.length ≤ 400) (hTl : s.T.length ≤ 100) (hst : ∀ o ∈ s.L, o.stream.size ≤ 1000000) :
    Calls Tryz.prog 10 #[.pointer (some ⟨p, 0, none⟩)] w fun e w' => e = .returned (.string (Bl (snpB (ptOf s)))) ∧ Below w.heap.size w w' := by
  have hsm := hr.small hL hTl
  have HSM := Lib.hid hsm
  have HTb := Lib.hid hT
  have HS := Lib.hid h
  have HOK := Lib.hid hr.okL
  have HST := Lib.hid hst
  have h2 : 2 ≤ w.heap.size := hT.lt
  have hB0 : Below w.heap.size w (w.alloc (.cells #[.pointer none, .slice none 0 0] 82)) := (Below.refl _ w).alloc (Nat.le_refl _) _
  have hb0 := heap_alloc_new w (.cells #[.pointer none, .slice none 0 0] 82)
  have hss := hsm.ss
  have hrs := hsm.rs
  have hap := hsm.ok.ap
  change 0 ≤ s.ap ∧ s.ap ≤ 274877906944 at hap
  clear hT h hr hst hsm
  go_enter Tryz.func10, Tryz.ntmps10
  go_upto_region 3 with (fail)
  generalize w.alloc (.cells #[.pointer none, .slice none 0 0] 82) = w1 at hB0 hb0 ⊢
  obtain ⟨b, hb⟩ : ∃ b, w.heap.size = b := ⟨_, rfl⟩
  have HB0 := Lib.hid hB0
  have HP1 := Lib.hid (parts_any w1 p s F W (HS.out.fresh hB0) (by omega) (by omega) HST.out HOK.out)
  have hbl : b < w1.heap.size := by rw [← hb]; exact (Array.getElem?_eq_some_iff.1 hb0).1
  rw [hb] at hb0 h2 ⊢
  have HBL := Lib.hid hb0
  have HBE := Lib.hid hb
  clear hB0 hb0 hb
  go_wp2_with fail
  refine HP1.out.mono ?_
  rintro e w2 ⟨sv, rv, rfl, hP, hB2⟩
  obtain ⟨pt, hpt⟩ : ∃ pt, ptOf s = pt := ⟨_, rfl⟩
  have hpa : pt.ap = s.ap := by rw [← hpt]; rfl
  rw [show (ptOf s).ss = pt.ss by rw [hpt]] at hss
  rw [show (ptOf s).rs = pt.rs by rw [hpt]] at hrs
  rw [hpt] at hP HSM ⊢
  obtain ⟨A, c, rfl, hA1, hA2⟩ := hP.ss.shape
  obtain ⟨A', c', rfl, hA1', hA2'⟩ := hP.rs.shape
  unfold maxLen at hA2 hA2'
  have hB3 : Below w2.heap.size w2 (w2.alloc (.cells #[.int .i64 s.ap, .slice A pt.ss.length c, .slice A' pt.rs.length c'] 43)) := (Below.refl _ w2).alloc (Nat.le_refl _) _
  have hg3 := heap_alloc_new w2 (.cells #[.int .i64 s.ap, .slice A pt.ss.length c, .slice A' pt.rs.length c'] 43)
  have hP3 := hP.fresh hB3
  have hsz3 : (w2.alloc (.cells #[.int .i64 s.ap, .slice A pt.ss.length c, .slice A' pt.rs.length c'] 43)).heap.size = w2.heap.size + 1 := World.size_alloc _ _
  have hbl3 := (hB3.block b (by have := hB2.size; omega)).trans ((hB2.block b hbl).trans HBL.out)
  have HB3 := Lib.hid ((HB0.out.trans (hB2.mono HB0.out.size)).trans (hB3.mono (by have := HB0.out.size; have := hB2.size; omega)))
  have hsz2 := hB2.size
  rw [hpa]
  have HPT := Lib.hid hpt
  clear hpt hB2 hP
  go_upto_region 4 with (fail)
  generalize w2.alloc (.cells #[.int .i64 s.ap, .slice A pt.ss.length c, .slice A' pt.rs.length c'] 43) = w3 at hB3 hg3 hP3 hsz3 hbl3 HB3 ⊢
  obtain ⟨g, hg⟩ : ∃ g, w2.heap.size = g := ⟨_, rfl⟩
  obtain ⟨B, hBe⟩ : ∃ B, w3.heap.size = B := ⟨_, rfl⟩
  rw [hg] at hg3 ⊢
  have hgB : g < B ∧ b < g := by omega
  have hT3 := HTb.out.fresh HB3.out
  have HT3 := Lib.hid hT3
  have HG3 := Lib.hid hg3
  have HPW0 : Hid (PW w3 B b [] w3) := Lib.hid ⟨Bld2.new hbl3 (by omega) (by omega), Keeps.refl _ _⟩
  obtain ⟨S, hS, hSm, hSe⟩ := hP3.ss
  have HSS := Lib.hid (show Sl w3 (fun k => b < k ∧ k < B) 3 smc (.slice A pt.ss.length c) S ∧ (∀ x ∈ S, SmAt w3 (fun k => b < k ∧ k < B) x) ∧ S.map SmS.sp = pt.ss from
    ⟨hS.bound.mono (fun k _ hk => by omega), fun x hx => (hSm x hx).bound.mono (fun k _ hk => by omega), hSe⟩)
  have HRS := Lib.hid (show Sl w3 (fun k => b < k ∧ k < B) 6 Ded.onec (.slice A' pt.rs.length c') pt.rs from hP3.rs.bound.mono (fun k _ hk => by omega))
  have x0 := cell_of_row w3 g 0 _ _ _ hg3
  have x1 := cell_of_row w3 g 1 _ _ _ hg3
  have hal := (Below.refl w3.heap.size w3).alloc (Nat.le_refl _) (.cells #[.int .i64 s.ap, .int .i64 (pt.ss.length : Int)] 3)
  have HC := Lib.hid (putc_any _ B b [] (HPW0.out.bld.fresh hal) w3.heap.size 2 _ (0, 0) [s.ap, (pt.ss.length : Int)] (heap_alloc_new w3 _) rfl rfl (by intro n hn; simp only [List.mem_cons, List.not_mem_nil, or_false] at hn; rcases hn with rfl | rfl <;> omega) (by simp) (by decide))
  have HAL := Lib.hid hal
  have h2B : 2 ≤ b := h2
  have HBe := Lib.hid hBe
  clear hBe hsz3 hsz2 h2 hP3 hS hSm hSe hal hbl3 hB3 hg3 hT3 hg
  go_wp2_with fail
  refine HC.out.mono ?_
  rintro e w4 ⟨rfl, hbl4, hkp4, _⟩
  rw [List.nil_append] at hbl4
  obtain ⟨hd, hhd⟩ : ∃ hd, numsL [s.ap, (pt.ss.length : Int)] = hd := ⟨_, rfl⟩
  rw [hhd] at hbl4
  have hhdl : hd.length ≤ 12 := by
    rw [← hhd]
    exact numsL_len (l := [s.ap, (pt.ss.length : Int)]) (by intro n hn; simp only [List.mem_cons, List.not_mem_nil, or_false] at hn; rcases hn with rfl | rfl <;> omega)
  have HHD := Lib.hid hhd
  have HPW4 := Lib.hid ((HPW0.out.fresh HAL.out).wrote hbl4 hkp4)
  have hg4 := HPW4.out.keep.grownTo HG3.out (by omega)
  have x1 := cell_of_row w4 g 1 _ _ _ hg4
  have x2 := cell_of_row w4 g 2 _ _ _ hg4
  have hlen := HSM.out.len
  have hflat : (pt.ss.flatMap strmL).length + (numL pt.rs.length).length + (pt.rs.flatMap rqsL).length ≤ 500000 := by
    unfold snpL at hlen
    simp only [List.length_append] at hlen
    omega
  clear hbl4 hkp4 hg4 HC HPW0 HAL x0 hhd hlen
  go_wp2_with fail
  go_loopw [7, 8, 9, 26] (fun _ _ _ i wr => ∃ k : Nat, k ≤ pt.ss.length ∧ i = .int .i64 k ∧ PW w3 B b (hd ++ (pt.ss.take k).flatMap strmL) wr) (fun _ _ _ i _ => pt.ss.length - (Go.RowKit.intOf i).toNat)
  case atStart => exact ⟨0, Nat.zero_le _, rfl, by rw [List.take_zero, List.flatMap_nil, List.append_nil]; exact HPW4.out⟩
  case round =>
    obtain ⟨k, hk, rfl, hpw⟩ := hrel
    have HPW := Lib.hid hpw
    clear hpw HPW4
    by_cases hlt : k < pt.ss.length
    · have d0 : decide ((k : Int) < (pt.ss.length : Int)) = true := decide_eq_true (by omega)
      have hkl : k < S.length := by have := congrArg List.length HSS.out.2.2; rw [List.length_map] at this; omega
      have hsx : S[k].sp = pt.ss[k] := by
        have := HSS.out.2.2
        rw [List.getElem_of_eq this.symm hlt, List.getElem_map]
      obtain ⟨ab, ao, rfl, _, _, hxx⟩ := (HSS.out.1.keep HPW.out.keep (fun k _ h e => by omega)).cell_ hkl
      have hsm := HSS.out.2.1 S[k] (List.getElem_mem hkl)
      have hmem : S[k].sp ∈ pt.ss := hsx ▸ List.getElem_mem hlt
      have hsp := HSM.out.ok.sp hmem
      have hev := HSM.out.ev _ hmem
      have hfl := flat_take_le strmL pt.ss (k + 1)
      rw [flat_take_succ strmL hlt, ← hsx, List.length_append] at hfl
      obtain ⟨⟨⟨xn, xe, xp⟩, ev, pv, o1, o2⟩, hX⟩ : ∃ x, x = S[k] := ⟨_, rfl⟩
      rw [← hX] at hxx hsm hsp hev hfl
      have hsx' := hsx
      rw [← hX] at hsx'
      obtain ⟨E, ec, hE, _, _⟩ := hsm.1.shape
      obtain ⟨U, uc, hU, _, _⟩ := hsm.2.shape
      change xn.size ≤ 128 ∧ xe.length = xp.length ∧ (∀ q ∈ xp.zip xe, 1 ≤ q.1 ∧ q.1 ≤ 274877906944 ∧ rightE q.2 = true) at hsp
      change xe.length ≤ 1000 at hev
      change ev = .slice E xe.length ec at hE
      change pv = .slice U xp.length uc at hU
      subst hE hU
      have x0 : wr.cell? ⟨ab, ao + k * 3, none⟩ = some (.string xn) := hxx 0 _ rfl
      have x1 : wr.cell? ⟨ab, ao + k * 3 + 1, none⟩ = some (.slice E xe.length ec) := hxx 1 _ rfl
      have x2 : wr.cell? ⟨ab, ao + k * 3 + 2, none⟩ = some (.slice U xp.length uc) := hxx 2 _ rfl
      have hB5 : Below wr.heap.size wr (wr.alloc (.cells #[.string xn, .slice E xe.length ec, .slice U xp.length uc] 90)) := (Below.refl _ wr).alloc (Nat.le_refl _) _
      have hx5 := heap_alloc_new wr (.cells #[.string xn, .slice E xe.length ec, .slice U xp.length uc] 90)
      have HSX := Lib.hid hsm
      have HSP := Lib.hid hsp.2.2
      have hxnl := hsp.1
      have HXL := Lib.hid hsp.2.1
      have hSX : strmL ⟨xn, xe, xp⟩ = txtL (Lb xn) ++ (numL xe.length ++ (xp.zip xe).flatMap oneL) := rfl
      change _ + (strmL ⟨xn, xe, xp⟩).length ≤ _ at hfl
      rw [hSX, List.length_append, List.length_append] at hfl
      have HSXX := Lib.hid hsx'
      clear hxx hsm hsp hmem hsx hsx' hX hSX
      go_upto_region 8 with (fail)
      generalize wr.alloc (.cells #[.string xn, .slice E xe.length ec, .slice U xp.length uc] 90) = w5 at hB5 hx5 ⊢
      obtain ⟨xb, hxb⟩ : ∃ xb, wr.heap.size = xb := ⟨_, rfl⟩
      have hxbB : B ≤ xb := by have := HPW.out.bld.2.1; omega
      have HPW5 := Lib.hid (HPW.out.fresh hB5)
      rw [hxb] at hx5 ⊢
      have HX5 := Lib.hid hx5
      have x0 : w5.cell? ⟨xb, 0, none⟩ = some (.string xn) := cell_of_row w5 xb 0 _ _ _ hx5
      have HC := Lib.hid (putText_any w5 xn (by omega))
      have hl1 : (hd ++ (pt.ss.take k).flatMap strmL).length ≤ 500012 := by rw [List.length_append]; omega
      clear hB5 hx5 hxb x1 x2
      go_wp2_with fail
      refine HC.out.mono ?_
      rintro e w6 ⟨rfl, hB6⟩
      have HPW6 := Lib.hid (HPW5.out.fresh hB6)
      have HX6 := Lib.hid ((Keeps.of_fresh hB6 (fun _ => False)).grownTo HX5.out id)
      have HW := Lib.hid (HPW6.out.bld.write (Bl (txtL (Lb xn))) (by rw [Bl_size]; omega))
      clear hB6 x0
      go_wp2_with fail
      refine HW.out.mono ?_
      rintro e w7 ⟨rfl, hbl, hkp, hot⟩
      rw [Lb_Bl] at hbl
      have HPW7 := Lib.hid (HPW6.out.wrote hbl hkp)
      have hx7 := others_cells hot HX6.out (by omega) (by decide)
      have x1 := cell_of_row w7 xb 1 _ _ _ hx7
      have hal := (Below.refl w7.heap.size w7).alloc (Nat.le_refl _) (.cells #[.int .i64 (xe.length : Int)] 3)
      have HC2 := Lib.hid (putc_any _ B b _ (HPW7.out.bld.fresh hal) w7.heap.size 1 _ (0, 0) [(xe.length : Int)] (heap_alloc_new w7 _) rfl rfl (by intro n hn; simp only [List.mem_cons, List.not_mem_nil, or_false] at hn; subst hn; omega) (by rw [List.length_append]; omega) (by decide))
      have HAL := Lib.hid hal
      have HX7 := Lib.hid ((Keeps.of_fresh hal (fun _ => False)).grownTo hx7 id)
      clear hbl hkp hot hx7 hal HC
      go_wp2_with fail
      refine HC2.out.mono ?_
      rintro e w8 ⟨rfl, hbl, hkp, hot⟩
      rw [numsL_one, Int.toNat_natCast] at hbl
      obtain ⟨pre, hpre⟩ : ∃ pre, hd ++ (pt.ss.take k).flatMap strmL ++ txtL (Lb xn) ++ numL xe.length = pre := ⟨_, rfl⟩
      rw [hpre] at hbl
      have HPW8 := Lib.hid ((HPW7.out.fresh HAL.out).wrote hbl hkp)
      have hx8 := others_cells hot HX7.out (by omega) (by decide)
      have x1 := cell_of_row w8 xb 1 _ _ _ hx8
      have HX8 := Lib.hid hx8
      have hprel : pre.length + ((xp.zip xe).flatMap oneL).length ≤ 500012 := by
        rw [← hpre, List.length_append, List.length_append, List.length_append]
        omega
      have HPRE := Lib.hid hpre
      clear hbl hkp hot hx8 HC2 hpre
      go_wp2_with fail
      go_loopw [8, 9, 43] (fun _ _ i wr => ∃ j : Nat, j ≤ xe.length ∧ i = .int .i64 j ∧ PW w3 B b (pre ++ ((xp.zip xe).take j).flatMap oneL) wr ∧ Lib.OthersKept 5 (some b) w8 wr) (fun _ _ i _ => xe.length - (Go.RowKit.intOf i).toNat)
      case atStart => exact ⟨0, Nat.zero_le _, rfl, by rw [List.take_zero, List.flatMap_nil, List.append_nil]; exact HPW8.out, Lib.OthersKept.refl _ _ _⟩
      case round =>
        obtain ⟨j, hj, rfl, hpw, hot⟩ := hrel
        have HPWJ := Lib.hid hpw
        have HOTJ := Lib.hid hot
        clear hpw hot
        by_cases hjl : j < xe.length
        · have d0 : decide ((j : Int) < (xe.length : Int)) = true := decide_eq_true (by omega)
          have hjp : j < xp.length := by have := HXL.out; omega
          have hzl : j < (xp.zip xe).length := by have := HXL.out; rw [List.length_zip]; omega
          have hq : (xp.zip xe)[j] = (xp[j], xe[j]) := List.getElem_zip ..
          have hqq := HSP.out _ (List.getElem_mem hzl)
          have hfz := flat_take_le oneL (xp.zip xe) (j + 1)
          rw [flat_take_succ oneL hzl, List.length_append] at hfz
          have HTS := Lib.hid (flat_take_succ oneL hzl)
          rw [hq] at hqq hfz HTS
          obtain ⟨eb, eo, rfl, _, _, hee⟩ := (HSX.out.1.keep HPWJ.out.keep (fun k _ h e => by omega)).cell_ hjl
          obtain ⟨ub, uo, rfl, _, _, huu⟩ := (HSX.out.2.keep HPWJ.out.keep (fun k _ h e => by omega)).cell_ hjp
          have y0 := hee 0 _ rfl
          have y1 := hee 1 _ rfl
          have u0 := huu 0 _ rfl
          obtain ⟨e, he⟩ : ∃ e, e = xe[j] := ⟨_, rfl⟩
          obtain ⟨n, hn⟩ : ∃ n, n = xp[j] := ⟨_, rfl⟩
          change _ = some (Value.string xe[j].kind) at y0
          change _ = some (Value.string xe[j].data) at y1
          change _ = some (Value.int .i64 xp[j]) at u0
          rw [← he] at y0 y1 hqq hfz HTS
          rw [← hn] at u0 hqq hfz HTS
          rw [Nat.add_zero] at y0
          rw [Nat.mul_one, Nat.add_zero] at u0
          have hxj := others_cells HOTJ.out HX8.out (by omega) (by decide)
          have x1 := cell_of_row wr xb 1 _ _ _ hxj
          change 1 ≤ n ∧ n ≤ 274877906944 ∧ rightE e = true at hqq
          have hn1 := hqq.1
          have hn2 := hqq.2.1
          have HER := Lib.hid hqq.2.2
          have hone : (oneL (n, e)).length = (numL n.toNat).length + (evbL e).length := by unfold oneL; rw [List.length_append]
          have hBd : Below wr.heap.size wr (wr.alloc (.cells #[.string e.kind, .string e.data] 77)) := (Below.refl _ wr).alloc (Nat.le_refl _) _
          have hvb := heap_alloc_new wr (.cells #[.string e.kind, .string e.data] 77)
          have HXJ := Lib.hid hxj
          clear hee huu he hn hqq hzl hq hxj
          go_upto_region 13 with (fail)
          generalize wr.alloc (.cells #[.string e.kind, .string e.data] 77) = wd at hBd hvb ⊢
          have u0 := (hBd.cell (p := ⟨ub, uo + j, none⟩) (World.block_lt_of_cell? _ _ u0)).trans u0
          have hxd := (Keeps.of_fresh hBd (fun _ => False)).grownTo HXJ.out id
          have x2 := cell_of_row wd xb 2 _ _ _ hxd
          obtain ⟨vb, hvbe⟩ : ∃ vb, wr.heap.size = vb := ⟨_, rfl⟩
          have hvB : B ≤ vb := by have := HPWJ.out.bld.2.1; omega
          rw [hvbe] at hvb ⊢
          have hal := (Below.refl wd.heap.size wd).alloc (Nat.le_refl _) (.cells #[.int .i64 n] 3)
          have HPWD := Lib.hid ((HPWJ.out.fresh hBd).fresh hal)
          have HC := Lib.hid (putc_any _ B b _ HPWD.out.bld wd.heap.size 1 _ (0, 0) [n] (heap_alloc_new wd _) rfl rfl (by intro n hn; simp only [List.mem_cons, List.not_mem_nil, or_false] at hn; subst hn; omega) (by rw [List.length_append]; omega) (by decide))
          have HVB := Lib.hid ((Keeps.of_fresh hal (fun _ => False)).grownTo hvb id)
          have HOTD := Lib.hid ((HOTJ.out.trans (oth_fresh hBd)).trans (oth_fresh hal))
          clear hBd hvb hvbe hal hxd x1 y0 y1
          go_wp2_with fail
          refine HC.out.mono ?_
          rintro x we ⟨rfl, hbl, hkp, hot⟩
          rw [numsL_one] at hbl
          have HPWE := Lib.hid (HPWD.out.wrote hbl hkp)
          have hve := others_cells hot HVB.out (by omega) (by decide)
          have z0 := cell_of_row we vb 0 _ _ _ hve
          have z1 := cell_of_row we vb 1 _ _ _ hve
          have HOTE := Lib.hid (HOTD.out.trans hot)
          have HC2 := Lib.hid (eput_ok we (HPWE.out.tabs HT3.out h2B) e HER.out)
          clear hbl hkp hot hve HC u0 x2
          go_wp2_with fail
          refine HC2.out.mono ?_
          rintro x wf ⟨rfl, hBf⟩
          have HPWF := Lib.hid (HPWE.out.fresh hBf)
          have HOTF := Lib.hid (HOTE.out.trans (oth_fresh hBf))
          have HW := Lib.hid (HPWF.out.bld.write (Bl (evbL e)) (by rw [Bl_size, List.length_append, List.length_append]; omega))
          clear hBf z0 z1 HC2
          go_wp2_with fail
          refine HW.out.mono ?_
          rintro x wg ⟨rfl, hbl, hkp, hot⟩
          rw [Lb_Bl, List.append_assoc, List.append_assoc, show numL n.toNat ++ evbL e = oneL (n, e) from rfl, ← HTS.out] at hbl
          have HPWG := Lib.hid (HPWF.out.wrote hbl hkp)
          have HOTG := Lib.hid (HOTF.out.trans hot)
          clear hbl hkp hot HW
          go_wp2_with fail
          go_roundw
          case rel => exact ⟨j + 1, hjl, by go_num, HPWG.out, HOTG.out⟩
          case measure => simp [Go.RowKit.intOf]; omega
        · have hjk : j = xe.length := by omega
          subst hjk
          have d0' : decide ((xe.length : Int) < (xe.length : Int)) = false := by simp
          have HPWN : Hid (PW w3 B b (hd ++ (pt.ss.take (k + 1)).flatMap strmL) wr) := Lib.hid (by
            have h0 := HPWJ.out
            rw [List.take_of_length_le (by have := HXL.out; rw [List.length_zip]; omega), ← HPRE.out] at h0
            rw [flat_take_succ strmL hlt, ← HSXX.out, show strmL ⟨xn, xe, xp⟩ = txtL (Lb xn) ++ (numL xe.length ++ (xp.zip xe).flatMap oneL) from rfl]
            simpa only [List.append_assoc] using h0)
          clear HPWJ
          go_wp2_with fail
          go_roundw
          case rel => exact ⟨k + 1, hlt, by go_num, HPWN.out⟩
          case measure => simp [Go.RowKit.intOf]; omega
    · have hkd : k = pt.ss.length := by omega
      subst hkd
      have d0 : decide ((pt.ss.length : Int) < (pt.ss.length : Int)) = false := by simp
      have hpw := HPW.out
      rw [List.take_length] at hpw
      have HPW9 := Lib.hid hpw
      have hg6 := hpw.keep.grownTo HG3.out (by omega)
      have x2 := cell_of_row wr g 2 _ _ _ hg6
      have hal := (Below.refl wr.heap.size wr).alloc (Nat.le_refl _) (.cells #[.int .i64 (pt.rs.length : Int)] 3)
      have HC := Lib.hid (putc_any _ B b _ (hpw.bld.fresh hal) wr.heap.size 1 _ (0, 0) [(pt.rs.length : Int)] (heap_alloc_new wr _) rfl rfl (by intro n hn; simp only [List.mem_cons, List.not_mem_nil, or_false] at hn; subst hn; omega) (by rw [List.length_append]; omega) (by decide))
      have HAL := Lib.hid hal
      clear hpw hg6 hal HPW
      go_wp2_with fail
      refine HC.out.mono ?_
      rintro e w8 ⟨rfl, hbl, hkp, hot⟩
      rw [numsL_one, Int.toNat_natCast] at hbl
      obtain ⟨pre, hpre⟩ : ∃ pre, hd ++ pt.ss.flatMap strmL ++ numL pt.rs.length = pre := ⟨_, rfl⟩
      rw [hpre] at hbl
      have HPW8 := Lib.hid ((HPW9.out.fresh HAL.out).wrote hbl hkp)
      have hg8 := HPW8.out.keep.grownTo HG3.out (by omega)
      have x2 := cell_of_row w8 g 2 _ _ _ hg8
      have hprel : pre.length + (pt.rs.flatMap rqsL).length ≤ 500012 := by
        rw [← hpre, List.length_append, List.length_append]
        omega
      have HPRE := Lib.hid hpre
      clear hbl hkp hot hg8 HC hpre
      go_wp2_with fail
      go_loopw [11, 70] (fun _ i wr => ∃ k : Nat, k ≤ pt.rs.length ∧ i = .int .i64 k ∧ PW w3 B b (pre ++ (pt.rs.take k).flatMap rqsL) wr) (fun _ i _ => pt.rs.length - (Go.RowKit.intOf i).toNat)
      case atStart => exact ⟨0, Nat.zero_le _, rfl, by rw [List.take_zero, List.flatMap_nil, List.append_nil]; exact HPW8.out⟩
      case round =>
        obtain ⟨k, hk, rfl, hpw⟩ := hrel
        have HPW := Lib.hid hpw
        clear hpw HPW8
        by_cases hlt : k < pt.rs.length
        · have d0 : decide ((k : Int) < (pt.rs.length : Int)) = true := decide_eq_true (by omega)
          obtain ⟨ab, ao, rfl, _, _, hxx⟩ := (HRS.out.keep HPW.out.keep (fun k _ h e => by omega)).cell_ hlt
          have hrq := HSM.out.ok.rq (List.getElem_mem hlt)
          have hfl := flat_take_le rqsL pt.rs (k + 1)
          rw [flat_take_succ rqsL hlt, List.length_append] at hfl
          have HTS := Lib.hid (flat_take_succ rqsL hlt)
          obtain ⟨⟨r1, r2, ⟨r3, r4, r5, r6⟩⟩, hr⟩ : ∃ r, r = pt.rs[k] := ⟨_, rfl⟩
          rw [← hr] at hxx hrq hfl HTS
          have x0 : wr.cell? ⟨ab, ao + k * 6, none⟩ = some (.int .i64 r1) := hxx 0 _ rfl
          have x1 : wr.cell? ⟨ab, ao + k * 6 + 1, none⟩ = some (.int .i64 r2) := hxx 1 _ rfl
          have x2 : wr.cell? ⟨ab, ao + k * 6 + 2, none⟩ = some (.int .i64 r3) := hxx 2 _ rfl
          have x3 : wr.cell? ⟨ab, ao + k * 6 + 3, none⟩ = some (.int .i64 r4) := hxx 3 _ rfl
          have x4 : wr.cell? ⟨ab, ao + k * 6 + 4, none⟩ = some (.int .i64 r5) := hxx 4 _ rfl
          have x5 : wr.cell? ⟨ab, ao + k * 6 + 5, none⟩ = some (.int .i64 r6) := hxx 5 _ rfl
          have hBd : Below wr.heap.size wr (wr.alloc (.cells #[.int .i64 r1, .int .i64 r2, .int .i64 r3, .int .i64 r4, .int .i64 r5, .int .i64 r6] 94)) := (Below.refl _ wr).alloc (Nat.le_refl _) _
          have hvb := heap_alloc_new wr (.cells #[.int .i64 r1, .int .i64 r2, .int .i64 r3, .int .i64 r4, .int .i64 r5, .int .i64 r6] 94)
          have HRQ := Lib.hid (show ∀ n ∈ [r1, r2, r3, r4, r5, r6], 0 ≤ n ∧ n ≤ 274877906944 from hrq)
          clear hxx hr hrq
          go_upto_region 21 with (fail)
          generalize wr.alloc (.cells #[.int .i64 r1, .int .i64 r2, .int .i64 r3, .int .i64 r4, .int .i64 r5, .int .i64 r6] 94) = wd at hBd hvb ⊢
          obtain ⟨vb, hvbe⟩ : ∃ vb, wr.heap.size = vb := ⟨_, rfl⟩
          rw [hvbe] at hvb ⊢
          have z0 := cell_of_row wd vb 0 _ _ _ hvb
          have z1 := cell_of_row wd vb 1 _ _ _ hvb
          have z2 := cell_of_row wd vb 2 _ _ _ hvb
          have z3 := cell_of_row wd vb 3 _ _ _ hvb
          have z4 := cell_of_row wd vb 4 _ _ _ hvb
          have z5 := cell_of_row wd vb 5 _ _ _ hvb
          have hal := (Below.refl wd.heap.size wd).alloc (Nat.le_refl _) (.cells #[.int .i64 r1, .int .i64 r2, .int .i64 r3, .int .i64 r4, .int .i64 r5, .int .i64 r6] 3)
          have HPWD := Lib.hid ((HPW.out.fresh hBd).fresh hal)
          have HC := Lib.hid (putc_any _ B b _ HPWD.out.bld wd.heap.size 6 _ (0, 0) [r1, r2, r3, r4, r5, r6] (heap_alloc_new wd _) rfl rfl HRQ.out (by rw [List.length_append]; omega) (by decide))
          clear hBd hvb hvbe hal x0 x1 x2 x3 x4 x5
          go_wp2_with fail
          refine HC.out.mono ?_
          rintro x we ⟨rfl, hbl, hkp, hot⟩
          rw [List.append_assoc, show numsL [r1, r2, r3, r4, r5, r6] = rqsL ⟨r1, r2, ⟨r3, r4, r5, r6⟩⟩ from rfl, ← HTS.out] at hbl
          have HPWE := Lib.hid (HPWD.out.wrote hbl hkp)
          clear hbl hkp hot HC z0 z1 z2 z3 z4 z5
          go_wp2_with fail
          go_roundw
          case rel => exact ⟨k + 1, hlt, by go_num, HPWE.out⟩
          case measure => simp [Go.RowKit.intOf]; omega
        · have hkd : k = pt.rs.length := by omega
          subst hkd
          have d0 : decide ((pt.rs.length : Int) < (pt.rs.length : Int)) = false := by simp
          have HPWN : Hid (PW w3 B b (snpL pt) wr) := Lib.hid (by
            have h0 := HPW.out
            rw [List.take_length, ← HPRE.out, ← HHD.out, numsL_two, Int.toNat_natCast, ← hpa] at h0
            have e : snpL pt = numL pt.ap.toNat ++ numL pt.ss.length ++ pt.ss.flatMap strmL ++ numL pt.rs.length ++ pt.rs.flatMap rqsL := by
              unfold snpL
              simp only [List.append_assoc]
            rw [e]
            exact h0)
          have hlen := HSM.out.len
          have HB10 := Lib.hid (HB3.out.trans (HPWN.out.keep.below (by have := HB3.out.size; omega) (fun k hk => by have := HBE.out; omega)))
          have HS1 := Lib.hid HPWN.out.bld.string
          obtain ⟨L, hL⟩ : ∃ L, snpL pt = L := ⟨_, rfl⟩
          have HGO := Lib.hid (show snpB (ptOf s) = fixL (crcU 0 L) ++ L by rw [HPT.out]; unfold snpB; rw [hL])
          rw [hL] at HS1 hlen
          clear HPW HPWN HRS hL
          go_wp2_with fail
          refine HS1.out.mono ?_
          rintro e w9 ⟨rfl, hb9, hB9⟩
          have HB9 := Lib.hid (HB10.out.trans (hB9.mono (Nat.le_of_eq HBE.out)))
          have HC1 := Lib.hid (sum_any w9 (Bl L) (by rw [Bl_size]; omega))
          clear hB9
          go_wp2_with fail
          refine HC1.out.mono ?_
          rintro e w10 ⟨rfl, hB10⟩
          rw [Lb_Bl]
          have hb10 := hb9.fresh hB10
          have HB10 := Lib.hid (HB9.out.trans (hB10.mono HB9.out.size))
          have HC2 := Lib.hid (fixed_any w10 (crcU 0 L) (crcU_lt 0 L))
          clear hB10 hb9
          go_wp2_with fail
          refine HC2.out.mono ?_
          rintro e w11 ⟨rfl, hB11⟩
          have hb11 := hb10.fresh hB11
          have HB11 := Lib.hid (HB10.out.trans (hB11.mono HB10.out.size))
          have HC3 := Lib.hid (bld_string hb11 (by have := HBE.out; have := HB11.out.size; omega))
          have hnov : ¬ 9223372036854775807 < (Bl (fixL (crcU 0 L))).size + (Bl L).size := by rw [Bl_size, Bl_size, fixL_len]; omega
          clear hB11 hb10 hb11
          go_wp2_with fail
          refine HC3.out.mono ?_
          rintro e w12 ⟨rfl, _, hB12⟩
          have HB12 := Lib.hid (HB11.out.trans (hB12.mono (Nat.le_of_eq HBE.out)))
          clear hB12
          go_wp2_with fail
          go_ret
          exact ⟨by rw [HGO.out, Bl_append]; rfl, HB12.out⟩
end Go.Proofs.YthebmbhdlkldiaaGreatDoor
