/- A View as a message: it is right, and its epoch. Under the stated premises on sizes. -/
import Derived.Test.YtoegdpcfhmjnaaaGreatDoorBldA
import Derived.Lib.OthersKept
import Derived.Test.YtoegdpcfhmjnaaaGreatDoorVwA
import Derived.Lib.FrozenHead2
import Derived.Test.YtoegdpcfhmjnaaaGreatDoorMstU
/- A strings.Builder: what is beside it stands. No condition but on sizes. -/
namespace Go.Proofs.YtoegdpcfhmjnaaaGreatDoor
open Go.RowKit Go.Bl

theorem copyCheck_k (B b : Nat) (bs : List Value) (w : World) (h : Lib.IsBuilderF 184 5 B b bs w) :
    Calls Tryz.prog 99 #[.pointer (some ⟨b, 0, none⟩)] w fun e w' => e = .returned (.tuple #[]) ∧ (Lib.BuilderAtF 184 5 B b (.pointer (some ⟨b, 0, none⟩)) bs w' ∧ Below B w w' ∧ Lib.OthersKept 5 (some b) w w') := by
  rcases h with h | h
  · refine (copyCheck_fresh b w h.cell0 h.shape h.frozen0).mono ?_
    rintro e w' ⟨rfl, rfl⟩
    exact ⟨rfl, h.used _, (Below.refl B w).setCell (p := ⟨b, 0, none⟩) h.1 _, (Lib.OthersKept.refl _ _ w).setCell ⟨b, 0, none⟩ rfl _⟩
  · refine (copyCheck_used b w h.cell0).mono ?_
    rintro e w' ⟨rfl, rfl⟩
    exact ⟨rfl, h, Below.refl B w', Lib.OthersKept.refl _ _ _⟩
set_option maxHeartbeats 2000000 in
set_option maxRecDepth 100000 in
theorem writeString_k (B b : Nat) (bs : List Value) (s : ByteArray) (w : World) (h : Lib.IsBuilderF 184 5 B b bs w) (hlen : bs.length + s.size ≤ 140737488355328) (hBw : B ≤ w.heap.size) :
    Calls Tryz.prog 77 #[.pointer (some ⟨b, 0, none⟩), .string s] w fun e w' => e = .returned (.tuple #[.int .i64 s.size, .nilIface]) ∧ (Lib.BuilderAtF 184 5 B b (.pointer (some ⟨b, 0, none⟩)) (bs ++ Lib.strCells s) w' ∧ Below B w w' ∧ Lib.OthersKept 5 (some b) w w') := by
  obtain ⟨i0, hi, hz0, hz1, hz2⟩ := info_parts bldX2.infoByte
  have HI := Lib.hid hi
  have H := Lib.hid h
  clear hi h
  go_enter Tryz.func77, Tryz.ntmps77
  go_wp2_with fail
  refine (copyCheck_k B b bs _ H.out).mono ?_
  rintro e w1 ⟨rfl, h1, hb1, hk1⟩
  obtain ⟨hB, v, hbk, hown, hne⟩ := h1
  have c0 : w1.cell? ⟨b, 0, none⟩ = some (.pointer (some ⟨b, 0, none⟩)) := by rw [Lib.cell_of_heap hbk]; rfl
  have c1 : w1.cell? ⟨b, 1, none⟩ = some v := by rw [Lib.cell_of_heap hbk]; rfl
  have HBK := Lib.hid hbk
  have HK1 := Lib.hid hk1
  clear hbk hk1
  go_wp2_with (at_builtin; refine Lib.wpList_append_own_stringF _ rfl _ _ 182 9 rfl B 5 i0 Tryz.underlying182 Tryz.underlying9 HI.out hz0 hz1 hz2 _ _ _ rfl hown s rfl ?c3 ?c4 ?c5 ?_)
  case c3 => unfold maxLen; omega
  case c4 => omega
  case c5 => have := hb1.size; omega
  intro v' w2 hown' hgrow _
  have hlt : b < w1.heap.size := (Array.getElem?_eq_some_iff.1 HBK.out).1
  have hb2 : w2.heap[b]? = some (.cells #[.pointer (some ⟨b, 0, none⟩), v] 184 (0, 0)) := by
    rw [hgrow.block b hlt (fun e => hne e.symm)]
    exact HBK.out
  have d0 : w2.cell? ⟨b, 0, none⟩ = some (.pointer (some ⟨b, 0, none⟩)) := by rw [Lib.cell_of_heap hb2]; rfl
  have d1 : w2.cell? ⟨b, 1, none⟩ = some v := by rw [Lib.cell_of_heap hb2]; rfl
  have f1 : w2.frozen? ⟨b, 1, none⟩ = false := Lib.frozen_of_heap hb2 1
  have HB2 := Lib.hid hb2
  clear hb2
  obtain ⟨ao, n', cap, rfl⟩ : ∃ ao n' cap, v' = .slice ao n' cap := by
    rcases hown'.2 with ⟨hv, _⟩ | ⟨g, cap, cur, fz, hv, _⟩
    · exact ⟨_, _, _, hv⟩
    · exact ⟨_, _, _, hv⟩
  go_wp2_with fail
  go_ret2
  refine ⟨rfl, ?_, ?_, (HK1.out.grown hgrow (Lib.ownsRowF_kind hown)).setCell ⟨b, 1, none⟩ rfl _⟩
  · exact Lib.BuilderAtF.put (T := 184) (e := 5) hB HB2.out (bs' := bs ++ Lib.strCells s) (by simpa [Lib.strCells_length] using hown') (by decide)
  · exact (hb1.grown hgrow (by have := hb1.size; omega) (fun k hk => (hown.lt k hk).1)).setCell (p := ⟨b, 1, none⟩) hB _
theorem bld_writeK {w : World} {B b : Nat} {l : List UInt8} (h : Bld w B b l) (s : ByteArray) (hs : l.length + s.size ≤ 140737488355328) (hB : B ≤ w.heap.size) :
    Calls Tryz.prog 77 #[.pointer (some ⟨b, 0, none⟩), .string s] w fun e w' => e = .returned (.tuple #[.int .i64 s.size, .nilIface]) ∧ Bld w' B b (l ++ Lb s) ∧ Below B w w' ∧ Lib.OthersKept 5 (some b) w w' := by
  refine (writeString_k B b (Lib.byteCells l) s w h (by rw [Lib.byteCells_length]; exact hs) hB).mono ?_
  rintro e w' ⟨rfl, h1, hB1, hK1⟩
  refine ⟨rfl, ?_, hB1, hK1⟩
  rw [Lib.strCells_eq, ← Lib.byteCells_append] at h1
  exact .inr h1
/-- A block of cells that are no bytes stands. -/
theorem others_cells {w w' : World} {b k : Nat} {cs : Array Value} {t : TypeId} {fr : Nat × Nat} (h : Lib.OthersKept 5 (some b) w w') (hk : w.heap[k]? = some (.cells cs t fr)) (hkb : k ≠ b) (ht : t ≠ 5) : w'.heap[k]? = some (.cells cs t fr) :=
  h k _ hk (fun e => hkb (Option.some.inj e)) (fun c fz e => by
    have := (Obj.cells.inj e).2.1
    exact ht this)
end Go.Proofs.YtoegdpcfhmjnaaaGreatDoor

/- A builder gets one byte more; numbers of a message, and whether they may be; rows without wrong ones. Under the stated premises on sizes. -/
namespace Go.Proofs.YtoegdpcfhmjnaaaGreatDoor
open Go.RowKit Go.Bl
attribute [local go_sem ↓] Go.wp_at_zero Go.wp_at_succ

set_option maxHeartbeats 2000000 in
set_option maxRecDepth 100000 in
theorem writeByte_f (B b : Nat) (bs : List Value) (c : Int) (w : World) (h : Lib.IsBuilderF 184 5 B b bs w) (hlen : bs.length + 1 ≤ 140737488355328) (hBw : B ≤ w.heap.size) :
    Calls Tryz.prog 76 #[.pointer (some ⟨b, 0, none⟩), .int .u8 c] w fun e w' => e = .returned .nilIface ∧ (Lib.BuilderAtF 184 5 B b (.pointer (some ⟨b, 0, none⟩)) (bs ++ [.int .u8 c]) w' ∧ Below B w w') := by
  obtain ⟨i0, hi, hz0, hz1, hz2⟩ := info_parts bldX2.infoByte
  have HI := Lib.hid hi
  have H := Lib.hid h
  clear hi h
  go_enter Tryz.func76, Tryz.ntmps76
  go_wp2_with fail
  refine (copyCheck_f B b bs _ H.out).mono ?_
  rintro e w1 ⟨rfl, h1, hb1⟩
  obtain ⟨hB, v, hbk, hown, hne⟩ := h1
  have c0 : w1.cell? ⟨b, 0, none⟩ = some (.pointer (some ⟨b, 0, none⟩)) := by rw [Lib.cell_of_heap hbk]; rfl
  have c1 : w1.cell? ⟨b, 1, none⟩ = some v := by rw [Lib.cell_of_heap hbk]; rfl
  have HBK := Lib.hid hbk
  clear hbk
  go_wp2_with (at_builtin; refine wpList_append_ownF _ rfl _ _ 182 rfl B 5 i0 (.int .u8 0) 1 1 Tryz.underlying182 HI.out hz0 hz1 hz2 rfl (by decide) _ _ _ rfl (hown.alloc _) ⟨w1.heap.size, 0, none⟩ 1 1 [.int .u8 c] rfl rfl ?c1 ?c2 ?c3 ?c4 ?c5 ?_)
  case c1 =>
    intro j u hj
    match j, hj with
    | 0, hj => simp at hj; subst hj; simp [Addr.add]
  case c2 => intro u hu; simp at hu; subst hu; rfl
  case c3 => unfold maxLen; omega
  case c4 => omega
  case c5 => have := hb1.size; simp; omega
  intro v' w2 hown' hgrow _
  have hlt : b < w1.heap.size := (Array.getElem?_eq_some_iff.1 HBK.out).1
  have hb2 : w2.heap[b]? = some (.cells #[.pointer (some ⟨b, 0, none⟩), v] 184 (0, 0)) := by
    rw [hgrow.block b (by simp; omega) (fun e => hne e.symm), Lib.alloc_old w1 _ b hlt]
    exact HBK.out
  have d0 : w2.cell? ⟨b, 0, none⟩ = some (.pointer (some ⟨b, 0, none⟩)) := by rw [Lib.cell_of_heap hb2]; rfl
  have d1 : w2.cell? ⟨b, 1, none⟩ = some v := by rw [Lib.cell_of_heap hb2]; rfl
  have f1 : w2.frozen? ⟨b, 1, none⟩ = false := Lib.frozen_of_heap hb2 1
  have HB2 := Lib.hid hb2
  clear hb2
  obtain ⟨ao, n', cap, rfl⟩ : ∃ ao n' cap, v' = .slice ao n' cap := by
    rcases hown'.2 with ⟨hv, _⟩ | ⟨g, cap, cur, fz, hv, _⟩
    · exact ⟨_, _, _, hv⟩
    · exact ⟨_, _, _, hv⟩
  go_wp2_with fail
  go_ret
  refine ⟨rfl, ?_, ?_⟩
  · exact Lib.BuilderAtF.put (T := 184) (e := 5) hB HB2.out (bs' := bs ++ [.int .u8 c]) (by simpa using hown') (by decide)
  · exact ((hb1.alloc (by have := hb1.size; omega) _).grown hgrow (by have := hb1.size; simp; omega) (fun k hk => (hown.lt k hk).1)).setCell (p := ⟨b, 1, none⟩) hB _
theorem bld_byte {w : World} {B b : Nat} {l : List UInt8} (h : Bld w B b l) (c : UInt8) (hs : l.length + 1 ≤ 140737488355328) (hB : B ≤ w.heap.size) :
    Calls Tryz.prog 76 #[.pointer (some ⟨b, 0, none⟩), .int .u8 c.toNat] w fun e w' => e = .returned .nilIface ∧ Bld w' B b (l ++ [c]) ∧ Below B w w' := by
  refine (writeByte_f B b (Lib.byteCells l) c.toNat w h (by rw [Lib.byteCells_length]; exact hs) hB).mono ?_
  rintro e w' ⟨rfl, h1, hB1⟩
  refine ⟨rfl, ?_, hB1⟩
  rw [show [Value.int .u8 c.toNat] = Lib.byteCells [c] from rfl, ← Lib.byteCells_append] at h1
  exact .inr h1
/-- A number of a message. -/
def okN (n : Int) : Bool := decide (0 ≤ n) && decide (n ≤ 274877906944)
theorem number_any (w : World) (n : Int) : Calls Tryz.prog 74 #[.int .i64 n] w fun e w' => e = .returned (.bool (okN n)) ∧ w = w' := by
  unfold okN
  by_cases h : 0 ≤ n
  · have d0 : decide (0 ≤ n) = true := decide_eq_true h
    obtain ⟨b, hb⟩ : ∃ b, decide (n ≤ 274877906944) = b := ⟨_, rfl⟩
    rw [d0, hb, Bool.true_and]
    clear h
    go_enter Tryz.func74, Tryz.ntmps74
    go_wp2_with fail
    go_ret
    exact ⟨rfl, rfl⟩
  · have d0 : decide (0 ≤ n) = false := decide_eq_false h
    rw [d0, Bool.false_and]
    clear h
    go_enter Tryz.func74, Tryz.ntmps74
    go_wp2_with fail
    go_ret
    exact ⟨rfl, rfl⟩
theorem putC_any (w : World) (n : Int) : Calls Tryz.prog 73 #[.int .i64 n] w fun e w' => e = .returned (.bool (!okN n)) ∧ w = w' := by
  obtain ⟨b, hb⟩ : ∃ b, okN n = b := ⟨_, rfl⟩
  have hc := number_any w n
  rw [hb] at hc ⊢
  have HC := Lib.hid hc
  clear hc hb
  go_enter Tryz.func73, Tryz.ntmps73
  go_wp2_with fail
  refine HC.out.mono ?_
  rintro e w1 ⟨rfl, rfl⟩
  go_wp2_with fail
  go_ret
  exact ⟨rfl, rfl⟩
set_option maxHeartbeats 1000000 in
theorem indexputC_any (w : World) (v : Value) (G : Nat → Prop) (L : List Int) (HV' : Sl w G 1 intc v L) (hok : ∀ x ∈ L, okN x = true) :
    Calls Tryz.prog 42 #[v, .func (.func 73) #[] #[]] w fun e w' => e = .returned (.int .i64 (-1)) ∧ w = w' := by
  obtain ⟨A, ca, rfl, hA1, hA2⟩ := HV'.shape
  unfold maxLen at hA2
  have HV := Lib.hid HV'
  have HOK := Lib.hid hok
  clear HV' hok
  go_enter Tryz.func42, Tryz.ntmps42
  go_wp2_with fail
  go_loop [8, 5] (fun i _ => ∃ k' : Nat, k' ≤ L.length ∧ i = .int .i64 k') (fun i _ => L.length - (intOf i).toNat)
  case atStart => exact ⟨0, Nat.zero_le _, rfl⟩
  case round =>
    obtain ⟨q, hk, rfl⟩ := hrel
    by_cases hlt : q < L.length
    · have d0 : decide ((q : Int) < (L.length : Int)) = true := decide_eq_true (by omega)
      obtain ⟨b, o, rfl, _, _, hxx⟩ := HV.out.cell_ hlt
      have x0 := hxx 0 _ rfl
      rw [Nat.mul_one, Nat.add_zero] at x0
      have hc := putC_any w L[q]
      rw [HOK.out L[q] (List.getElem_mem hlt)] at hc
      obtain ⟨x, hx⟩ : ∃ x, x = L[q] := ⟨_, rfl⟩
      rw [← hx] at x0 hc
      have HC := Lib.hid hc
      clear hxx hc hx
      go_wp2_with fail
      refine HC.out.mono ?_
      rintro e w1 ⟨rfl, rfl⟩
      go_wp2_with fail
      go_round
      case rel => exact ⟨q + 1, hlt, by go_num⟩
      case measure => simp [intOf]; omega
    · have hkl : q = L.length := by omega
      subst hkl
      have d0 : decide ((L.length : Int) < (L.length : Int)) = false := by simp
      go_wp2_with fail
      go_ret
      exact ⟨rfl, rfl⟩
theorem contputC_any (w : World) (v : Value) (G : Nat → Prop) (L : List Int) (hV : Sl w G 1 intc v L) (hok : ∀ x ∈ L, okN x = true) :
    Calls Tryz.prog 41 #[v, .func (.func 73) #[] #[]] w fun e w' => e = .returned (.bool false) ∧ w = w' := by
  have hc := indexputC_any w v G L hV hok
  obtain ⟨A, ca, rfl, hA1, hA2⟩ := hV.shape
  have HC := Lib.hid hc
  clear hc hV hok
  go_enter Tryz.func41, Tryz.ntmps41
  go_wp2_with fail
  refine HC.out.mono ?_
  rintro e w1 ⟨rfl, rfl⟩
  go_wp2_with fail
  go_ret
  exact ⟨rfl, rfl⟩
theorem partC_any (w : World) (n : Int) : Calls Tryz.prog 89 #[.int .i64 n] w fun e w' => e = .returned (.bool (!okN n)) ∧ w = w' := by
  obtain ⟨b, hb⟩ : ∃ b, okN n = b := ⟨_, rfl⟩
  have hc := number_any w n
  rw [hb] at hc ⊢
  have HC := Lib.hid hc
  clear hc hb
  go_enter Tryz.func89, Tryz.ntmps89
  go_wp2_with fail
  refine HC.out.mono ?_
  rintro e w1 ⟨rfl, rfl⟩
  go_wp2_with fail
  go_ret
  exact ⟨rfl, rfl⟩
set_option maxHeartbeats 1000000 in
theorem indexpartC_any (w : World) (v : Value) (G : Nat → Prop) (L : List Int) (HV' : Sl w G 1 intc v L) (hok : ∀ x ∈ L, okN x = true) :
    Calls Tryz.prog 42 #[v, .func (.func 89) #[] #[]] w fun e w' => e = .returned (.int .i64 (-1)) ∧ w = w' := by
  obtain ⟨A, ca, rfl, hA1, hA2⟩ := HV'.shape
  unfold maxLen at hA2
  have HV := Lib.hid HV'
  have HOK := Lib.hid hok
  clear HV' hok
  go_enter Tryz.func42, Tryz.ntmps42
  go_wp2_with fail
  go_loop [8, 5] (fun i _ => ∃ k' : Nat, k' ≤ L.length ∧ i = .int .i64 k') (fun i _ => L.length - (intOf i).toNat)
  case atStart => exact ⟨0, Nat.zero_le _, rfl⟩
  case round =>
    obtain ⟨q, hk, rfl⟩ := hrel
    by_cases hlt : q < L.length
    · have d0 : decide ((q : Int) < (L.length : Int)) = true := decide_eq_true (by omega)
      obtain ⟨b, o, rfl, _, _, hxx⟩ := HV.out.cell_ hlt
      have x0 := hxx 0 _ rfl
      rw [Nat.mul_one, Nat.add_zero] at x0
      have hc := partC_any w L[q]
      rw [HOK.out L[q] (List.getElem_mem hlt)] at hc
      obtain ⟨x, hx⟩ : ∃ x, x = L[q] := ⟨_, rfl⟩
      rw [← hx] at x0 hc
      have HC := Lib.hid hc
      clear hxx hc hx
      go_wp2_with fail
      refine HC.out.mono ?_
      rintro e w1 ⟨rfl, rfl⟩
      go_wp2_with fail
      go_round
      case rel => exact ⟨q + 1, hlt, by go_num⟩
      case measure => simp [intOf]; omega
    · have hkl : q = L.length := by omega
      subst hkl
      have d0 : decide ((L.length : Int) < (L.length : Int)) = false := by simp
      go_wp2_with fail
      go_ret
      exact ⟨rfl, rfl⟩
theorem contpartC_any (w : World) (v : Value) (G : Nat → Prop) (L : List Int) (hV : Sl w G 1 intc v L) (hok : ∀ x ∈ L, okN x = true) :
    Calls Tryz.prog 41 #[v, .func (.func 89) #[] #[]] w fun e w' => e = .returned (.bool false) ∧ w = w' := by
  have hc := indexpartC_any w v G L hV hok
  obtain ⟨A, ca, rfl, hA1, hA2⟩ := hV.shape
  have HC := Lib.hid hc
  clear hc hV hok
  go_enter Tryz.func41, Tryz.ntmps41
  go_wp2_with fail
  refine HC.out.mono ?_
  rintro e w1 ⟨rfl, rfl⟩
  go_wp2_with fail
  go_ret
  exact ⟨rfl, rfl⟩
end Go.Proofs.YtoegdpcfhmjnaaaGreatDoor

/- A View as a message: its numbers, its parts' bytes. Under the stated premises on sizes. -/
namespace Go.Proofs.YtoegdpcfhmjnaaaGreatDoor
open Go.RowKit Go.Bl
attribute [local go_sem ↓] Go.wp_at_zero Go.wp_at_succ

theorem not_lease (T : TypeId) (hT : T ≠ 64) (v : Value) (xT : TypeId) (w : World) : (Instr.typeAssert (.iface T v) xT 64 true).run Tryz.prog w = .ok (.tuple #[.agg #[.int .i64 0, .int .i64 0], .bool false]) w := by
  simp [Instr.typeAssert, run_underlying Tryz.underlying64, hT]
theorem as_mview (v : Value) (xT : TypeId) (w : World) : (Instr.typeAssert (.iface 122 v) xT 122 true).run Tryz.prog w = .ok (.tuple #[v, .bool true]) w := by
  simp [Instr.typeAssert, run_underlying Tryz.underlying122]
theorem as_mview1 (v : Value) (xT : TypeId) (w : World) : (Instr.typeAssert (.iface 122 v) xT 122 false).run Tryz.prog w = .ok v w := by
  simp [Instr.typeAssert, run_underlying Tryz.underlying122]
theorem kindV_any (w : World) (ep : Int) (a b c : Value) : Calls Tryz.prog 161 #[.agg #[.int .i64 ep, a, b, c]] w fun e w' => e = .returned (.int .i64 4) ∧ Below w.heap.size w w' := by
  go_enter Tryz.func161, Tryz.ntmps161
  go_wp2_with fail
  go_ret
  exact ⟨rfl, (Below.refl _ w).alloc (Nat.le_refl _) _⟩
set_option maxRecDepth 8000 in
set_option maxHeartbeats 2000000 in
theorem numbersV_any (w : World) (ep : Int) (A B C : Option Addr) (n ca cb cc : Nat) :
    Calls Tryz.prog 36 #[.iface 122 (.agg #[.int .i64 ep, .slice A n ca, .slice B n cb, .slice C n cc])] w fun e w' => ∃ g, e = .returned (.tuple #[.slice (some ⟨g, 0, none⟩) 1 1, .bool true]) ∧ Sl w' (fun k => w.heap.size ≤ k) 1 intc (.slice (some ⟨g, 0, none⟩) 1 1) [ep] ∧ Below w.heap.size w w' := by
  have hb := fun W => not_beat 122 (by decide) (.agg #[.int .i64 ep, .slice A n ca, .slice B n cb, .slice C n cc]) 39 W
  have hj := fun W => not_join 122 (by decide) (.agg #[.int .i64 ep, .slice A n ca, .slice B n cb, .slice C n cc]) 39 W
  have hl := fun W => not_lease 122 (by decide) (.agg #[.int .i64 ep, .slice A n ca, .slice B n cb, .slice C n cc]) 39 W
  have hv := fun W => as_mview (.agg #[.int .i64 ep, .slice A n ca, .slice B n cb, .slice C n cc]) 39 W
  go_enter Tryz.func36, Tryz.ntmps36
  go_upto_region 12 with (fail)
  obtain ⟨w4, hw4⟩ : ∃ w4, (((w.alloc (.cells #[.int .i64 0, .int .i64 0, .int .i64 0] 76)).alloc (.cells #[.int .i64 0, .int .i64 0] 48)).alloc (.cells #[.int .i64 0, .int .i64 0] 64)).alloc (.cells #[.int .i64 ep, .slice A n ca, .slice B n cb, .slice C n cc] 122) = w4 := ⟨_, rfl⟩
  have hB : Below w.heap.size w w4 := hw4 ▸ (((((Below.refl _ w).alloc (Nat.le_refl _) _).alloc (by simp) _).alloc (by simp; omega) _).alloc (by simp; omega) _)
  obtain ⟨q, hq⟩ : ∃ q, w.heap.size + 3 = q := ⟨_, rfl⟩
  have hk : w4.heap[q]? = some (.cells #[.int .i64 ep, .slice A n ca, .slice B n cb, .slice C n cc] 122 (0, 0)) := by
    have := heap_alloc_new (((w.alloc (.cells #[.int .i64 0, .int .i64 0, .int .i64 0] 76)).alloc (.cells #[.int .i64 0, .int .i64 0] 48)).alloc (.cells #[.int .i64 0, .int .i64 0] 64)) (.cells #[.int .i64 ep, .slice A n ca, .slice B n cb, .slice C n cc] 122)
    rw [hw4] at this
    simp only [World.size_alloc] at this
    rw [show w.heap.size + 1 + 1 + 1 = q by omega] at this
    exact this
  rw [hw4, hq]
  have HB := Lib.hid hB
  have z0 := cell_of_row w4 q 0 _ _ _ hk
  clear hb hj hl hv hw4 hq hB hk
  go_wp2_with fail
  go_ret2
  have hs := HB.out.size
  exact ⟨_, rfl, (Sl.single (enc := intc) (x := ep) (heap_alloc_new w4 _) rfl).mono fun k _ hk => by rw [show k = w4.heap.size from hk]; exact hs, HB.out.alloc hs _⟩
theorem others_fresh {w w' : World} {t : TypeId} {b : Option Nat} (hB : Below w.heap.size w w') : Lib.OthersKept t b w w' := fun k _ hk _ _ => (hB.block k (Array.getElem?_eq_some_iff.1 hk).1).trans hk
/-- One list of a message's parts. -/
structure PrtL (w : World) (F : Nat → Prop) (g k : Nat) (A : Option Addr) (n c : Nat) (R : List Int) : Prop where
  cell : w.cell? ⟨g, k, none⟩ = some (.slice A n c)
  sl : Sl w F 1 intc (.slice A n c) R
  ok : ∀ x ∈ R, okN x = true
/-- The builder, and what stands beside it. -/
structure PrtW (w3 : World) (q : Nat) (l : List UInt8) (wr : World) : Prop where
  bld : Bld wr q q l
  below : Below q w3 wr
  oth : Lib.OthersKept 5 (some q) w3 wr
theorem PrtW.fresh {w3 wr wx : World} {q : Nat} {l : List UInt8} (h : PrtW w3 q l wr) (hB : Below wr.heap.size wr wx) (hq : q ≤ w3.heap.size) : PrtW w3 q l wx := ⟨h.bld.fresh hB, h.below.trans (hB.mono (Nat.le_trans hq h.below.size)), h.oth.trans (others_fresh hB)⟩
theorem PrtW.wrote {w3 wr wx : World} {q : Nat} {l l' : List UInt8} (h : PrtW w3 q l wr) (h1 : Bld wx q q l') (h2 : Below q wr wx) (h3 : Lib.OthersKept 5 (some q) wr wx) : PrtW w3 q l' wx := ⟨h1, h.below.trans h2, h.oth.trans h3⟩
theorem PrtL.at {w3 wr : World} {F : Nat → Prop} {q g k : Nat} {A : Option Addr} {n c : Nat} {R : List Int} {l : List UInt8} {a1 a2 a3 : Value} (h : PrtL w3 F g k A n c R) (hg : w3.heap[g]? = some (.cells #[a1, a2, a3] 22 (0, 0))) (hF : ∀ k, F k → k < q) (hgq : g ≠ q) (hw : PrtW w3 q l wr) : PrtL wr F g k A n c R := by
  have hb := others_cells hw.oth hg hgq (by decide)
  refine ⟨?_, h.sl.keep (Keeps.of_below hw.below) (fun k _ h1 h2 => by have := hF k h1; omega), h.ok⟩
  rw [← h.cell, cell_of_row wr g k _ _ _ hb, cell_of_row w3 g k _ _ _ hg]
set_option maxRecDepth 20000 in
set_option maxHeartbeats 8000000 in
theorem partsV_any' (w : World) (F : Nat → Prop) (hF : ∀ k, F k → k < w.heap.size) (ep : Int) (L : List Nd) (a b c : Value) (h : VwSl w F L a b c) (hr : RightV ⟨ep, L⟩) :
    Calls Tryz.prog 75 #[.iface 122 (.agg #[.int .i64 ep, a, b, c])] w fun e w' => ∃ s : ByteArray, e = .returned (.tuple #[.string s, .bool true]) ∧ s.size ≤ 1000 ∧ Below w.heap.size w w' := by
  have hL6 := hr.n2
  change L.length ≤ 6 at hL6
  have he2 := hr.ep2
  change ep ≤ 274877906944 at he2
  obtain ⟨A, ca, B, cb, C, cc, rfl, rfl, rfl, hca, hcm, hcb, hcc⟩ := h.shape
  have hk4 := fun W => kindV_any W ep (.slice A L.length ca) (.slice B L.length cb) (.slice C L.length cc)
  have hv := fun W => as_mview1 (.agg #[.int .i64 ep, .slice A L.length ca, .slice B L.length cb, .slice C L.length cc]) 39 W
  have HBD := Lib.hid (show ∀ x ∈ L, okN x.node = true ∧ okN x.since = true ∧ okN x.boot = true from fun x hx => by
    have := hr.bd x hx
    change _ ∧ _ ∧ _ ∧ x.since ≤ ep ∧ _ at this
    unfold okN
    simp only [Bool.and_eq_true, decide_eq_true_eq]
    omega)
  have H := Lib.hid h
  have HF := Lib.hid hF
  have hb0 : Bld (w.alloc (.cells #[.pointer none, .slice none 0 0] 184)) w.heap.size w.heap.size [] := bld_new w
  have hB0 : Below w.heap.size w (w.alloc (.cells #[.pointer none, .slice none 0 0] 184)) := (Below.refl _ w).alloc (Nat.le_refl _) _
  have HL0 := Lib.hid hb0
  have HB0 := Lib.hid hB0
  clear h hF hb0 hB0 hr
  go_enter Tryz.func75, Tryz.ntmps75
  go_upto_region 2 with (fail)
  obtain ⟨q, hq⟩ : ∃ q, w.heap.size = q := ⟨_, rfl⟩
  rw [hq] at HL0 HB0 HF ⊢
  have HSZ : Hid ((w.alloc (.cells #[.pointer none, .slice none 0 0] 184)).heap.size = q + 1 ∧ w.heap.size = q) := Lib.hid (by rw [World.size_alloc, hq]; exact ⟨rfl, rfl⟩)
  generalize w.alloc (.cells #[.pointer none, .slice none 0 0] 184) = w0 at HL0 HB0 HSZ ⊢
  clear hq
  go_wp2_with fail
  refine (hk4 _).mono ?_
  rintro e w1 ⟨rfl, hB1⟩
  clear hk4
  have HL1 := Lib.hid (HL0.out.fresh hB1)
  have HS1 := Lib.hid (show q + 1 ≤ w1.heap.size from HSZ.out.1 ▸ hB1.size)
  have HB1 := Lib.hid (HB0.out.trans (hB1.mono (by rw [HSZ.out.1]; omega)))
  clear hB1 HL0 HB0
  go_upto_region 6 with (fail)
  have hal : Below w1.heap.size w1 (w1.alloc (.cells #[.int .i64 ep, .slice A L.length ca, .slice B L.length cb, .slice C L.length cc] 122)) := (Below.refl _ w1).alloc (Nat.le_refl _) _
  obtain ⟨p, hp⟩ : ∃ p, w1.heap.size = p := ⟨_, rfl⟩
  have hk2 := heap_alloc_new w1 (.cells #[.int .i64 ep, .slice A L.length ca, .slice B L.length cb, .slice C L.length cc] 122)
  have HS2 : Hid ((w1.alloc (.cells #[.int .i64 ep, .slice A L.length ca, .slice B L.length cb, .slice C L.length cc] 122)).heap.size = p + 1 ∧ q + 1 ≤ p) := Lib.hid (by rw [World.size_alloc, hp]; exact ⟨rfl, hp ▸ HS1.out⟩)
  have HL2 := Lib.hid (HL1.out.fresh hal)
  have HB2 := Lib.hid (HB1.out.trans (hal.mono (by have := HS1.out; omega)))
  rw [hp] at hk2 ⊢
  generalize w1.alloc (.cells #[.int .i64 ep, .slice A L.length ca, .slice B L.length cb, .slice C L.length cc] 122) = w2 at HL2 HB2 HS2 hk2 ⊢
  have y1 := cell_of_row w2 p 1 _ _ _ hk2
  have y2 := cell_of_row w2 p 2 _ _ _ hk2
  have y3 := cell_of_row w2 p 3 _ _ _ hk2
  clear hp hal hk2 HL1 HB1 HS1 hv
  obtain ⟨w3, hw3⟩ : ∃ w3, w2.alloc (.cells #[.slice A L.length ca, .slice B L.length cb, .slice C L.length cc] 22) = w3 := ⟨_, rfl⟩
  obtain ⟨g, hg⟩ : ∃ g, w2.heap.size = g := ⟨_, rfl⟩
  have hal : Below w2.heap.size w2 w3 := hw3 ▸ ((Below.refl _ w2).alloc (Nat.le_refl _) _)
  have HK3 : Hid (w3.heap[g]? = some (.cells #[.slice A L.length ca, .slice B L.length cb, .slice C L.length cc] 22 (0, 0))) := Lib.hid (by
    have := heap_alloc_new w2 (.cells #[.slice A L.length ca, .slice B L.length cb, .slice C L.length cc] 22)
    rw [hw3, hg] at this
    exact this)
  have HG := Lib.hid (show g ≠ q ∧ q ≤ w3.heap.size from ⟨by have := HS2.out; omega, by have := HS2.out; have := hal.size; omega⟩)
  have HB3 := Lib.hid (HB2.out.trans (hal.mono (by have := HS2.out; omega)))
  have HW3 : Hid (PrtW w3 q [] w3) := Lib.hid ⟨HL2.out.fresh hal, Below.refl _ _, Lib.OthersKept.refl _ _ _⟩
  have HV3 := Lib.hid (H.out.keep (Keeps.of_below HB3.out) (fun k _ h1 h2 => by have := HF.out k h1; omega))
  have HP : Hid (∀ k, k < 3 → ∃ A' c' R, PrtL w3 F g k A' L.length c' R) := Lib.hid (fun k hk => by
    have hc := HK3.out
    match k, hk with
    | 0, _ => exact ⟨A, ca, _, cell_of_row w3 g 0 _ _ _ hc, HV3.out.ch, fun x hx => by obtain ⟨y, hy, rfl⟩ := List.mem_map.1 hx; exact (HBD.out y hy).1⟩
    | 1, _ => exact ⟨B, cb, _, cell_of_row w3 g 1 _ _ _ hc, HV3.out.si, fun x hx => by obtain ⟨y, hy, rfl⟩ := List.mem_map.1 hx; exact (HBD.out y hy).2.1⟩
    | 2, _ => exact ⟨C, cc, _, cell_of_row w3 g 2 _ _ _ hc, HV3.out.bo, fun x hx => by obtain ⟨y, hy, rfl⟩ := List.mem_map.1 hx; exact (HBD.out y hy).2.2⟩)
  clear hal
  go_wp2_with fail
  clear hw3 hg y1 y2 y3
  go_loopw [6, 34] (fun ok i wr => ∃ (k : Nat) (l : List UInt8), k ≤ 3 ∧ ok = .bool true ∧ i = .int .i64 k ∧ l.length ≤ 60 * k ∧ PrtW w3 q l wr) (fun _ i _ => 3 - (intOf i).toNat)
  case atStart => exact ⟨0, [], by omega, rfl, rfl, by simp, HW3.out⟩
  case round =>
    obtain ⟨k, l, hk, rfl, rfl, hl, hW⟩ := hrel
    have HW := Lib.hid hW
    clear hW
    by_cases hlt : k < 3
    · have d0 : decide ((k : Int) < 3) = true := decide_eq_true (by omega)
      have d0' : decide (k < 3) = true := decide_eq_true hlt
      obtain ⟨A', c', R, hP⟩ := HP.out k hlt
      have hPr := hP.at HK3.out HF.out HG.out.1 HW.out
      have x0 := hPr.cell
      have hRn : R.length = L.length := hPr.sl.len_.symm
      have HPW := Lib.hid hP
      have hpn := numL_len (n := L.length) (by omega)
      obtain ⟨S, hS⟩ : ∃ S, Bl (numL L.length) = S := ⟨_, rfl⟩
      have C1 := Lib.hid (fun W => nput_in W (L.length : Int) (by omega) (by omega))
      rw [Int.toNat_natCast, hS] at C1
      have hSs : S.size ≤ 6 := by rw [← hS, Bl_size]; exact hpn
      have HRN := Lib.hid hRn
      clear hP hPr hS hpn hRn
      go_wp2_with fail
      refine (C1.out _).mono ?_
      rintro e w5 ⟨rfl, hB5⟩
      have HW5 := Lib.hid (HW.out.fresh hB5 HG.out.2)
      clear hB5
      go_wp2_with fail
      refine (bld_writeK HW5.out.bld S (by omega) (Nat.le_trans HG.out.2 HW5.out.below.size)).mono ?_
      rintro e w6 ⟨rfl, h1, h2, h3⟩
      have HW6 := Lib.hid (HW5.out.wrote h1 h2 h3)
      have hl6 : (l ++ Lb S).length ≤ 60 * k + 10 := by rw [List.length_append, Lb_len]; omega
      obtain ⟨l6, hl6e⟩ : ∃ l6, l ++ Lb S = l6 := ⟨_, rfl⟩
      rw [hl6e] at HW6 hl6
      clear h1 h2 h3 hl6e C1 x0 HW5
      go_wp2_with fail
      go_loopw [44] (fun i wx => ∃ (j : Nat) (l' : List UInt8), j ≤ L.length ∧ i = .int .i64 j ∧ l'.length ≤ 60 * k + 10 + 7 * j ∧ PrtW w3 q l' wx) (fun i _ => L.length - (intOf i).toNat)
      case atStart => exact ⟨0, l6, Nat.zero_le _, rfl, by simpa using hl6, HW6.out⟩
      case round =>
        obtain ⟨j, l', hj, rfl, hl', hWx⟩ := hrel
        have HWx := Lib.hid hWx
        clear hWx
        have HPx := Lib.hid (HPW.out.at HK3.out HF.out HG.out.1 HWx.out)
        by_cases hlj : j < L.length
        · have e0 : decide ((j : Int) < (L.length : Int)) = true := decide_eq_true (by omega)
          have e0' : decide (j < L.length) = true := decide_eq_true hlj
          have hjR : j < R.length := by rw [HRN.out]; exact hlj
          obtain ⟨qa, oa, rfl, _, _, hxx⟩ := HPx.out.sl.cell_ hjR
          have x1 := hxx 0 _ rfl
          rw [Nat.mul_one, Nat.add_zero] at x1
          have hok := HPx.out.ok R[j] (List.getElem_mem hjR)
          obtain ⟨y, hy⟩ : ∃ y, R[j] = y := ⟨_, rfl⟩
          rw [hy] at x1 hok
          unfold okN at hok
          simp only [Bool.and_eq_true, decide_eq_true_eq] at hok
          have C2 := Lib.hid (fun W => nput_in W y hok.1 (by omega))
          have hpn := numL_len (n := y.toNat) (by omega)
          obtain ⟨T, hT⟩ : ∃ T, Bl (numL y.toNat) = T := ⟨_, rfl⟩
          rw [hT] at C2
          have hTs : T.size ≤ 6 := by rw [← hT, Bl_size]; exact hpn
          clear hxx hy hT hpn hok
          go_wp2_with fail
          refine (C2.out _).mono ?_
          rintro e w7 ⟨rfl, hB7⟩
          have HW7 := Lib.hid (HWx.out.fresh hB7 HG.out.2)
          clear hB7
          go_wp2_with fail
          refine (bld_writeK HW7.out.bld T (by omega) (Nat.le_trans HG.out.2 HW7.out.below.size)).mono ?_
          rintro e w8 ⟨rfl, h1, h2, h3⟩
          have HW8 := Lib.hid (HW7.out.wrote h1 h2 h3)
          clear h1 h2 h3
          go_wp2_with fail
          go_roundw
          case rel => exact ⟨j + 1, l' ++ Lb T, hlj, by go_num, by rw [List.length_append, Lb_len]; omega, HW8.out⟩
          case measure => simp [intOf]; omega
        · have hjn : j = L.length := by omega
          subst hjn
          have e0 : decide ((L.length : Int) < (L.length : Int)) = false := by simp
          have e1 : decide ((L.length : Int) ≤ 6) = true := decide_eq_true (by omega)
          have e1' : decide (L.length ≤ 6) = true := decide_eq_true hL6
          have HCF := Lib.hid (contpartC_any wr _ F R HPx.out.sl HPx.out.ok)
          go_wp2_with fail
          refine HCF.out.mono ?_
          rintro e w9 ⟨rfl, rfl⟩
          go_wp2_with fail
          go_roundw
          case rel => exact ⟨k + 1, l', hlt, rfl, by go_num, by omega, HWx.out⟩
          case measure => simp [intOf]; omega
    · have hk3 : k = 3 := by omega
      subst hk3
      have d0 : decide (((3 : Nat) : Int) < 3) = false := by decide
      have HST := Lib.hid (bld_string HW.out.bld (Nat.le_trans HG.out.2 HW.out.below.size))
      go_wp2_with fail
      refine HST.out.mono ?_
      rintro e w5 ⟨rfl, _, hB5⟩
      have HB5 := Lib.hid hB5
      clear hB5
      go_wp2_with fail
      go_ret2
      refine ⟨Bl l, rfl, by rw [Bl_size]; omega, ?_⟩
      rw [HSZ.out.2]
      exact (HB3.out.trans HW.out.below).trans HB5.out
theorem partsV_any (w : World) (F : Nat → Prop) (ep : Int) (L : List Nd) (a b c : Value) (h : VwSl w F L a b c) (hr : RightV ⟨ep, L⟩) :
    Calls Tryz.prog 75 #[.iface 122 (.agg #[.int .i64 ep, a, b, c])] w fun e w' => ∃ s : ByteArray, e = .returned (.tuple #[.string s, .bool true]) ∧ s.size ≤ 1000 ∧ Below w.heap.size w w' :=
  partsV_any' w (fun k => k < w.heap.size) (fun _ h => h) ep L a b c (h.mono (F' := fun k => k < w.heap.size) fun _ hk _ => hk) hr
end Go.Proofs.YtoegdpcfhmjnaaaGreatDoor

namespace Go.Proofs.YtoegdpcfhmjnaaaGreatDoor
open Go.RowKit Go.Bl
attribute [local go_sem ↓] Go.wp_at_zero Go.wp_at_succ

set_option maxRecDepth 20000 in
set_option maxHeartbeats 4000000 in
theorem putV_any (w : World) (F : Nat → Prop) (ep : Int) (L : List Nd) (a b c : Value) (h : VwSl w F L a b c) (hr : RightV ⟨ep, L⟩) :
    Calls Tryz.prog 61 #[.iface 122 (.agg #[.int .i64 ep, a, b, c])] w fun e w' => ∃ s : ByteArray, e = .returned (.string s) ∧ 1 ≤ s.size ∧ Below w.heap.size w w' := by
  have he1 := hr.ep1
  have he2 := hr.ep2
  change 1 ≤ ep at he1
  change ep ≤ 274877906944 at he2
  obtain ⟨A, ca, B, cb, C, cc, rfl, rfl, rfl, hca, hcm, hcb, hcc⟩ := h.shape
  have HNM := Lib.hid (numbersV_any w ep A B C L.length ca cb cc)
  have H := Lib.hid h
  have HR := Lib.hid hr
  have hk4 := fun W => kindV_any W ep (.slice A L.length ca) (.slice B L.length cb) (.slice C L.length cc)
  have HK4 := Lib.hid hk4
  clear h hr hk4
  go_enter Tryz.func61, Tryz.ntmps61
  go_wp2_with fail
  refine HNM.out.mono ?_
  rintro e w1 ⟨g, rfl, hS1, hB1⟩
  have HS1 := Lib.hid hS1
  have HB1 := Lib.hid hB1
  have hok : ∀ x ∈ [ep], okN x = true := fun x hx => by
    rw [List.mem_singleton.1 hx]
    unfold okN
    rw [decide_eq_true (by omega), decide_eq_true he2]
    rfl
  have HCF := Lib.hid (contputC_any w1 _ _ [ep] hS1 hok)
  have HPT := Lib.hid (partsV_any w1 F ep L _ _ _ (H.out.fresh hB1) HR.out)
  clear hS1 hB1 hok
  go_wp2_with fail
  refine HCF.out.mono ?_
  rintro e w2 ⟨rfl, rfl⟩
  go_wp2_with fail
  refine HPT.out.mono ?_
  rintro e w2 ⟨rest, rfl, hrs, hB2⟩
  have HB2 := Lib.hid (HB1.out.trans (hB2.mono HB1.out.size))
  have HS2 := Lib.hid (HS1.out.fresh hB2)
  clear hB2 HS1 HB1 HNM HCF HPT
  have hb0 : Bld (w2.alloc (.cells #[.pointer none, .slice none 0 0] 184)) w2.heap.size w2.heap.size [] := bld_new w2
  have hal : Below w2.heap.size w2 (w2.alloc (.cells #[.pointer none, .slice none 0 0] 184)) := (Below.refl _ w2).alloc (Nat.le_refl _) _
  go_upto_region 8 with (fail)
  obtain ⟨q, hq⟩ : ∃ q, w2.heap.size = q := ⟨_, rfl⟩
  have HSZ : Hid ((w2.alloc (.cells #[.pointer none, .slice none 0 0] 184)).heap.size = q + 1 ∧ w2.heap.size = q) := Lib.hid (by rw [World.size_alloc, hq]; exact ⟨rfl, rfl⟩)
  have HB3 := Lib.hid (HB2.out.trans (hal.mono HB2.out.size))
  have HS3 := Lib.hid (HS2.out.bound.fresh hal)
  rw [hq] at hb0 ⊢
  have HL3 := Lib.hid hb0
  generalize w2.alloc (.cells #[.pointer none, .slice none 0 0] 184) = w3 at HB3 HS3 HL3 HSZ ⊢
  have HWQ := Lib.hid (show w.heap.size ≤ q ∧ q ≤ w3.heap.size from ⟨by have := HB2.out.size; have := HSZ.out.2; omega, by have := HSZ.out.1; omega⟩)
  clear hb0 hal hq
  go_wp2_with fail
  refine (HK4.out w3).mono ?_
  rintro e w4 ⟨rfl, hB4⟩
  have HL4 := Lib.hid (HL3.out.fresh hB4)
  have HS4 := Lib.hid (HS3.out.fresh hB4)
  have HQ4 := Lib.hid (show q ≤ w4.heap.size from Nat.le_trans HWQ.out.2 hB4.size)
  have HB4 := Lib.hid (HB3.out.trans (hB4.mono (Nat.le_trans HWQ.out.1 HWQ.out.2)))
  clear hB4
  go_wp2_with fail
  refine (bld_byte HL4.out 4 (by decide) HQ4.out).mono ?_
  rintro e w5 ⟨rfl, h1, h2⟩
  have HL5 := Lib.hid h1
  have HB5 := Lib.hid (HB4.out.trans (h2.mono HWQ.out.1))
  have HQ5 := Lib.hid (show q ≤ w5.heap.size from Nat.le_trans HQ4.out h2.size)
  have HS5 := Lib.hid (HS4.out.keep (Keeps.of_below h2) (fun k _ h3 h4 => by have := h3.2; have := HSZ.out.2; omega))
  clear h1 h2
  obtain ⟨qa, oa, hqe, _, _, hxx⟩ := HS5.out.cell_ (i := 0) (by simp)
  cases hqe
  have x0 := hxx 0 _ rfl
  simp only [List.getElem_cons_zero, Nat.mul_one, Nat.add_zero] at x0
  have C2 := Lib.hid (fun W => nput_in W ep (by omega) (by omega))
  have hpn := numL_len (n := ep.toNat) (by omega)
  have hpp := numL_pos ep.toNat
  obtain ⟨T, hT⟩ : ∃ T, Bl (numL ep.toNat) = T := ⟨_, rfl⟩
  rw [hT] at C2
  have hTs : T.size ≤ 6 := by rw [← hT, Bl_size]; exact hpn
  clear hxx hT hpn hpp
  go_wp2_with fail
  go_loopw [34] (fun i wr => ∃ (k : Nat) (l : List UInt8), k ≤ 1 ∧ i = .int .i64 k ∧ 1 ≤ l.length ∧ l.length ≤ 1 + 6 * k ∧ Bld wr q q l ∧ Below q w5 wr) (fun i _ => 1 - (intOf i).toNat)
  case atStart => exact ⟨0, _, by omega, rfl, by simp, by simp, HL5.out, Below.refl _ _⟩
  case round =>
    obtain ⟨k, l, hk, rfl, hl0, hl, hbl, hbe⟩ := hrel
    have HBL := Lib.hid hbl
    have HBE := Lib.hid hbe
    clear hbl hbe
    by_cases hlt : k < 1
    · have hk0 : k = 0 := by omega
      subst hk0
      have d0 : decide (((0 : Nat) : Int) < 1) = true := by decide
      have x1 := (HBE.out.cell (p := ⟨g, 0, none⟩) (show g < q by have := HSZ.out.2; omega)).trans x0
      go_wp2_with fail
      refine (C2.out _).mono ?_
      rintro e w7 ⟨rfl, hB7⟩
      have HL7 := Lib.hid (HBL.out.fresh hB7)
      have HBE7 := Lib.hid (HBE.out.trans (hB7.mono (Nat.le_trans HQ5.out HBE.out.size)))
      clear hB7
      go_wp2_with fail
      refine (bld_write HL7.out T (by omega) (Nat.le_trans HQ5.out HBE7.out.size)).mono ?_
      rintro e w8 ⟨rfl, h1, h2⟩
      have HL8 := Lib.hid h1
      have HB8 := Lib.hid (HBE7.out.trans h2)
      clear h1 h2
      go_wp2_with fail
      go_roundw
      case rel => exact ⟨1, l ++ Lb T, by omega, rfl, by rw [List.length_append]; omega, by rw [List.length_append, Lb_len]; omega, HL8.out, HB8.out⟩
      case measure => simp [intOf]
    · have hk1 : k = 1 := by omega
      subst hk1
      have d0 : decide (((1 : Nat) : Int) < 1) = false := by decide
      have HST := Lib.hid (bld_string HBL.out (Nat.le_trans HQ5.out HBE.out.size))
      obtain ⟨S, hS⟩ : ∃ S, Bl l = S := ⟨_, rfl⟩
      rw [hS] at HST
      have hSs : 1 ≤ S.size ∧ S.size ≤ 10 := by rw [← hS, Bl_size]; omega
      have hnov : ¬ 9223372036854775807 < S.size + rest.size := by omega
      clear hS
      go_wp2_with fail
      refine HST.out.mono ?_
      rintro e w9 ⟨rfl, _, hB9⟩
      have HB9 := Lib.hid hB9
      clear hB9
      go_wp2_with fail
      go_ret
      refine ⟨S ++ rest, rfl, by rw [ByteArray.size_append]; omega, ?_⟩
      exact (HB5.out.trans (HBE.out.mono HWQ.out.1)).trans (HB9.out.mono HWQ.out.1)
theorem mrightV_any (w : World) (F : Nat → Prop) (ep : Int) (L : List Nd) (a b c : Value) (h : VwSl w F L a b c) (hr : RightV ⟨ep, L⟩) :
    Calls Tryz.prog 37 #[.iface 122 (.agg #[.int .i64 ep, a, b, c])] w fun e w' => e = .returned (.bool true) ∧ Below w.heap.size w w' := by
  have hc := putV_any w F ep L a b c h hr
  obtain ⟨A, ca, B, cb, C, cc, rfl, rfl, rfl, hca, hcm, hcb, hcc⟩ := h.shape
  have HC := Lib.hid hc
  clear hc h hr
  go_enter Tryz.func37, Tryz.ntmps37
  go_wp2_with fail
  refine HC.out.mono ?_
  rintro e w1 ⟨s, rfl, hs, hB⟩
  have HB := Lib.hid hB
  have hne : s.toList.isEmpty = false := by
    rw [ByteArray.toList_eq, List.isEmpty_eq_false_iff]
    intro e
    have h2 := congrArg List.length e
    have h3 : s.data.toList.length = s.size := Array.length_toList
    rw [h3, List.length_nil] at h2
    omega
  clear hB
  go_wp2_with fail
  go_ret
  exact ⟨rfl, HB.out⟩
set_option maxRecDepth 20000 in
set_option maxHeartbeats 4000000 in
theorem epochV_any (w : World) (F : Nat → Prop) (ep : Int) (L : List Nd) (a b c : Value) (h : VwSl w F L a b c) (hr : RightV ⟨ep, L⟩) :
    Calls Tryz.prog 10 #[.iface 122 (.agg #[.int .i64 ep, a, b, c])] w fun e w' => e = .returned (.int .i64 ep) ∧ Below w.heap.size w w' := by
  have hc := fun W (hW : Below w.heap.size w W) => mrightV_any W F ep L a b c (h.fresh hW) hr
  obtain ⟨A, ca, B, cb, C, cc, rfl, rfl, rfl, hca, hcm, hcb, hcc⟩ := h.shape
  have HNM := Lib.hid (numbersV_any w ep A B C L.length ca cb cc)
  have hk4 := fun W => kindV_any W ep (.slice A L.length ca) (.slice B L.length cb) (.slice C L.length cc)
  have HK4 := Lib.hid hk4
  have HC := Lib.hid hc
  clear hc h hr hk4
  go_enter Tryz.func10, Tryz.ntmps10
  go_wp2_with fail
  refine HNM.out.mono ?_
  rintro e w1 ⟨g, rfl, hS1, hB1⟩
  have HS1 := Lib.hid hS1
  have HB1 := Lib.hid hB1
  have HC1 := Lib.hid (HC.out w1 hB1)
  clear hS1 hB1
  go_wp2_with fail
  refine HC1.out.mono ?_
  rintro e w2 ⟨rfl, hB2⟩
  have HB2 := Lib.hid (HB1.out.trans (hB2.mono HB1.out.size))
  have HS2 := Lib.hid (HS1.out.fresh hB2)
  clear hB2
  go_wp2_with fail
  refine (HK4.out w2).mono ?_
  rintro e w3 ⟨rfl, hB3⟩
  have hB := HB2.out.trans (hB3.mono HB2.out.size)
  have hS := HS2.out.fresh hB3
  obtain ⟨qa, oa, hqe, _, _, hxx⟩ := hS.cell_ (i := 0) (by simp)
  cases hqe
  have x0 := hxx 0 _ rfl
  simp only [List.getElem_cons_zero, Nat.mul_one, Nat.add_zero] at x0
  have HB := Lib.hid hB
  clear hxx hB hS hB3
  go_wp2_with fail
  go_ret
  exact ⟨rfl, HB.out⟩
end Go.Proofs.YtoegdpcfhmjnaaaGreatDoor
