/- The statements' examples: shown. Under the tables that utf8 lays. -/
import Derived.Test.YtlfhokcjbgpjhaaGreatDoorStaB
import Derived.Test.YtlfhokcjbgpjhaaGreatDoorStaD
namespace Go.Proofs.YtlfhokcjbgpjhaaGreatDoor
open Go.RowKit Go.Bl
attribute [local go_sem ↓] Go.wp_at_zero Go.wp_at_succ

/-- Are two outcomes unlike (alike)? Under names that the walk does not open. -/
def ocNe (a b : Ded.Oc) : Bool := decide (¬ a.code = b.code) || decide (¬ a.pos = b.pos) || decide (¬ a.first = b.first) || decide (¬ a.ver = b.ver)
def ocEq (a b : Ded.Oc) : Bool := !ocNe a b
theorem ocNe_iff {a b : Ded.Oc} : ocNe a b = true ↔ a ≠ b := by
  obtain ⟨a1, a2, a3, a4⟩ := a
  obtain ⟨b1, b2, b3, b4⟩ := b
  simp only [ocNe, Bool.or_eq_true, decide_eq_true_eq, ne_eq, Ded.Oc.mk.injEq]
  constructor
  · rintro h ⟨h1, h2, h3, h4⟩
    omega
  · intro h
    by_cases h1 : a1 = b1 <;> by_cases h2 : a2 = b2 <;> by_cases h3 : a3 = b3 <;> by_cases h4 : a4 = b4 <;> simp_all
theorem ocNe_self (a : Ded.Oc) : ocNe a a = false := by
  cases h : ocNe a a
  · rfl
  · exact absurd rfl (ocNe_iff.1 h)
theorem neqOc (a b c d a' b' c' d' : Int) (w : World) : (binOp .neq 35 (.agg #[.int .i64 a, .int .i64 b, .int .i64 c, .int .i64 d]) (.agg #[.int .i64 a', .int .i64 b', .int .i64 c', .int .i64 d'])).run Tryz.prog w = .ok (.bool (ocNe ⟨a, b, c, d⟩ ⟨a', b', c', d'⟩)) w := by
  have u3 := Tryz.underlying3
  have a3 := Tryz.isAgg3
  have z3 := Tryz.sizeOf3
  have hS : Tryz.prog.underlying 35 = some (.struct (Tryz.prog.fieldsOf 35)) := by kernel_rfl
  have hp : Tryz.prog.stoodInHeld 35 = false := by kernel_rfl
  rw [run_neq_struct, show (10000 : Nat) = 9999 + 1 from rfl, run_equalIn_agg w 9999 35 _ _ hS hp]
  simp only [Program.fieldsOf, Tryz.underlying35]
  go_simp
  by_cases h1 : a = a' <;> by_cases h2 : b = b' <;> by_cases h3 : c = c' <;> by_cases h4 : d = d' <;> simp [ocNe, h1, h2, h3, h4]
theorem eqlOc (a b c d a' b' c' d' : Int) (w : World) : (binOp .eql 35 (.agg #[.int .i64 a, .int .i64 b, .int .i64 c, .int .i64 d]) (.agg #[.int .i64 a', .int .i64 b', .int .i64 c', .int .i64 d'])).run Tryz.prog w = .ok (.bool (ocEq ⟨a, b, c, d⟩ ⟨a', b', c', d'⟩)) w := by
  have u3 := Tryz.underlying3
  have a3 := Tryz.isAgg3
  have z3 := Tryz.sizeOf3
  have hS : Tryz.prog.underlying 35 = some (.struct (Tryz.prog.fieldsOf 35)) := by kernel_rfl
  have hp : Tryz.prog.stoodInHeld 35 = false := by kernel_rfl
  rw [run_eql_struct, show (10000 : Nat) = 9999 + 1 from rfl, run_equalIn_agg w 9999 35 _ _ hS hp]
  simp only [Program.fieldsOf, Tryz.underlying35]
  go_simp
  by_cases h1 : a = a' <;> by_cases h2 : b = b' <;> by_cases h3 : c = c' <;> by_cases h4 : d = d' <;> simp [ocEq, ocNe, h1, h2, h3, h4]

theorem firstE_ok (pos seq expect : Int) (many : Nat) (v : Value) : ∀ e ∈ (firstE pos seq expect many v).evs, EvOk e := by
  intro e he
  have := List.eq_of_mem_replicate he
  subst this
  exact ⟨by decide, by decide⟩
def shO : Idx.One := ⟨⟨#[115]⟩, 1, kEv⟩
def sh1 : St := ⟨[shO, shO], [⟨1, 1, ⟨1, 1, 0, 2⟩⟩], 1⟩
def sh2 : St := ⟨[shO, shO], [⟨1, 1, ⟨1, 1, 0, 2⟩⟩, ⟨1, 2, ⟨2, 2, 2, 2⟩⟩], 2⟩
def sh3 : St := ⟨[shO, shO], [⟨1, 1, ⟨1, 1, 0, 2⟩⟩, ⟨1, 2, ⟨2, 2, 2, 2⟩⟩], 3⟩
theorem shown1 (v : Value) : applyS St.new (firstE 1 1 0 2 v) = (sh1, ⟨1, 1, 0, 2⟩, 0) := by kernel_rfl
theorem shown2 (v : Value) : applyS sh1 (firstE 2 2 0 1 v) = (sh2, ⟨2, 2, 2, 2⟩, 0) := by kernel_rfl
theorem shown3 (v : Value) : applyS sh2 (firstE 3 1 0 2 v) = (sh3, ⟨1, 1, 0, 2⟩, 0) := by kernel_rfl
set_option maxRecDepth 8000 in
set_option maxHeartbeats 4000000 in
theorem shown_any (w : World) (hT : Tabs w) : Calls Tryz.prog 6 #[] w fun x w' => x = .returned (.bool true) ∧ Below w.heap.size w w' := by
  have hne := eqlOc
  have HTb := Lib.hid hT
  clear hT
  go_enter Tryz.func6, Tryz.ntmps6
  go_wp2_with fail
  refine (snew_any w).mono ?_
  rintro e w0 ⟨p, W0, rfl, _, hW0, hS0, hB0⟩
  have HW0 := Lib.hid hW0
  have HS0 := Lib.hid hS0
  have HB0 := Lib.hid hB0
  clear hW0 hS0 hB0
  go_wp2_with fail
  refine (first_any w0 1 1 0 2 (by decide)).mono ?_
  rintro e wf ⟨v, rfl, hO, hB⟩
  have HO := Lib.hid hO
  have HBf := Lib.hid hB
  obtain ⟨A, c, rfl, _, _⟩ := hO.shape_ (n := 2) (by simp)
  have hszf := hB.size
  have HBw := Lib.hid (HB0.out.trans (hB.mono HB0.out.size))
  have HSf := Lib.hid (HS0.out.fresh hB)
  clear hO hB
  have hbt : BatchOk wf (fun b => (Value.slice A 2 c).ownBlock = some b) (firstE 1 1 0 2 (.slice A 2 c)) := ⟨HO.out.sl (fun _ => rfl), firstE_ok _ _ _ _ _, by show (1 : Nat) ≤ _; omega, by simp [firstE]⟩
  have hcall := apply_any wf (HTb.out.fresh HBw.out) p St.new _ _ HSf.out _ _ hbt (fun b hb hw => by have := (HO.out.lt b hb).1; have := HS0.out.lt _ (HS0.out.wf _ hw); omega) (by decide) (by simp [firstE, St.new]) (by simp [St.new])
  rw [shown1] at hcall
  have HC := Lib.hid hcall
  clear hcall hbt
  go_wp2_with fail
  refine HC.out.mono ?_
  rintro e w1 ⟨rfl, W1, hW, hS, hK⟩
  have hB1 : Below w.heap.size w w1 := HBw.out.trans (hK.below HBw.out.size HW0.out)
  have hWj : ∀ k, W1 k → w.heap.size ≤ k := fun k hk => by
    rcases hW k hk with e | e
    · exact HW0.out k e
    · exact Nat.le_trans HBw.out.size e
  have HSj := Lib.hid hS
  have HKj := Lib.hid hK
  have HWW := Lib.hid hW
  go_upto_region 5 with (fail)
  have hBx : Below w1.heap.size w1 (w1.alloc (.cells #[.int .i64 1, .int .i64 1, .int .i64 0, .int .i64 2] 35)) := (Below.refl _ _).alloc (Nat.le_refl _) _
  have hnb := heap_alloc_new w1 (.cells #[.int .i64 1, .int .i64 1, .int .i64 0, .int .i64 2] 35)
  generalize (w1.alloc (.cells #[.int .i64 1, .int .i64 1, .int .i64 0, .int .i64 2] 35)) = x1 at hBx hnb ⊢
  have HS1 := Lib.hid (HSj.out.fresh hBx)
  have HB1 := Lib.hid (hB1.trans (hBx.mono hB1.size))
  have HW1 := Lib.hid hWj
  have hl1 : w1.heap.size < x1.heap.size := (Array.getElem?_eq_some_iff.1 hnb).1
  have hNj : ¬ W1 w1.heap.size := fun e => by have := HSj.out.lt _ (HSj.out.wf _ e); omega
  have HA1 := Lib.hid hnb
  have HN1 := Lib.hid hNj
  have HL1 := Lib.hid hl1
  clear hBx hnb hNj hWj HSj HKj HWW HBf HC HSf HBw HO hK hS hW hszf hB1 hl1
  go_wp2_with fail
  refine (first_any x1 2 2 0 1 (by decide)).mono ?_
  rintro e wf ⟨v, rfl, hO, hB⟩
  have HO := Lib.hid hO
  have HBf := Lib.hid hB
  obtain ⟨A, c, rfl, _, _⟩ := hO.shape_ (n := 1) (by simp)
  have hszf := hB.size
  have HBw := Lib.hid (HB1.out.trans (hB.mono HB1.out.size))
  have HSf := Lib.hid (HS1.out.fresh hB)
  clear hO hB
  have hbt : BatchOk wf (fun b => (Value.slice A 1 c).ownBlock = some b) (firstE 2 2 0 1 (.slice A 1 c)) := ⟨HO.out.sl (fun _ => rfl), firstE_ok _ _ _ _ _, by show (1 : Nat) ≤ _; omega, by simp [firstE]⟩
  have hcall := apply_any wf (HTb.out.fresh HBw.out) p sh1 _ _ HSf.out _ _ hbt (fun b hb hw => by have := (HO.out.lt b hb).1; have := HS1.out.lt _ (HS1.out.wf _ hw); omega) (by decide) (by simp [firstE, sh1]) (by simp [sh1])
  rw [shown2] at hcall
  have HC := Lib.hid hcall
  clear hcall hbt
  go_wp2_with fail
  refine HC.out.mono ?_
  rintro e w2 ⟨rfl, W2, hW, hS, hK⟩
  have hB2 : Below w.heap.size w w2 := HBw.out.trans (hK.below HBw.out.size HW1.out)
  have hWj : ∀ k, W2 k → w.heap.size ≤ k := fun k hk => by
    rcases hW k hk with e | e
    · exact HW1.out k e
    · exact Nat.le_trans HBw.out.size e
  have HSj := Lib.hid hS
  have HKj := Lib.hid hK
  have HWW := Lib.hid hW
  go_upto_region 6 with (fail)
  have hBx : Below w2.heap.size w2 (w2.alloc (.cells #[.int .i64 2, .int .i64 2, .int .i64 2, .int .i64 2] 35)) := (Below.refl _ _).alloc (Nat.le_refl _) _
  have hnb := heap_alloc_new w2 (.cells #[.int .i64 2, .int .i64 2, .int .i64 2, .int .i64 2] 35)
  generalize (w2.alloc (.cells #[.int .i64 2, .int .i64 2, .int .i64 2, .int .i64 2] 35)) = x2 at hBx hnb ⊢
  have HS2 := Lib.hid (HSj.out.fresh hBx)
  have HB2 := Lib.hid (hB2.trans (hBx.mono hB2.size))
  have HW2 := Lib.hid hWj
  have hn1 := (Keeps.of_fresh hBx (fun _ => False)).grownTo (HKj.out.grownTo ((Keeps.of_fresh HBf.out (fun _ => False)).grownTo HA1.out id) HN1.out) id
  have hN1 : ¬ W2 w1.heap.size := fun e => by
    rcases HWW.out _ e with q | q
    · exact HN1.out q
    · have := HL1.out; have := HBf.out.size; omega
  have hl2 : w2.heap.size < x2.heap.size := (Array.getElem?_eq_some_iff.1 hnb).1
  have hNj : ¬ W2 w2.heap.size := fun e => by have := HSj.out.lt _ (HSj.out.wf _ e); omega
  clear HA1 HN1 HL1
  have HA1 := Lib.hid hn1
  have HN1 := Lib.hid hN1
  have HL1 := Lib.hid (show w1.heap.size < x2.heap.size from (Array.getElem?_eq_some_iff.1 hn1).1)
  have HA2 := Lib.hid hnb
  have HN2 := Lib.hid hNj
  have HL2 := Lib.hid hl2
  clear hBx hnb hNj hWj HSj HKj HWW HBf HC HSf HBw HO hK hS hW hszf hB2 hl2 hn1 hN1
  go_wp2_with fail
  refine (first_any x2 3 1 0 2 (by decide)).mono ?_
  rintro e wf ⟨v, rfl, hO, hB⟩
  have HO := Lib.hid hO
  have HBf := Lib.hid hB
  obtain ⟨A, c, rfl, _, _⟩ := hO.shape_ (n := 2) (by simp)
  have hszf := hB.size
  have HBw := Lib.hid (HB2.out.trans (hB.mono HB2.out.size))
  have HSf := Lib.hid (HS2.out.fresh hB)
  clear hO hB
  have hbt : BatchOk wf (fun b => (Value.slice A 2 c).ownBlock = some b) (firstE 3 1 0 2 (.slice A 2 c)) := ⟨HO.out.sl (fun _ => rfl), firstE_ok _ _ _ _ _, by show (1 : Nat) ≤ _; omega, by simp [firstE]⟩
  have hcall := apply_any wf (HTb.out.fresh HBw.out) p sh2 _ _ HSf.out _ _ hbt (fun b hb hw => by have := (HO.out.lt b hb).1; have := HS2.out.lt _ (HS2.out.wf _ hw); omega) (by decide) (by simp [firstE, sh2]) (by simp [sh2])
  rw [shown3] at hcall
  have HC := Lib.hid hcall
  clear hcall hbt
  go_wp2_with fail
  refine HC.out.mono ?_
  rintro e w3 ⟨rfl, W3, hW, hS, hK⟩
  have hB3 : Below w.heap.size w w3 := HBw.out.trans (hK.below HBw.out.size HW2.out)
  have hWj : ∀ k, W3 k → w.heap.size ≤ k := fun k hk => by
    rcases hW k hk with e | e
    · exact HW2.out k e
    · exact Nat.le_trans HBw.out.size e
  have HSj := Lib.hid hS
  have HKj := Lib.hid hK
  have HWW := Lib.hid hW
  go_upto_region 7 with (fail)
  have hBx : Below w3.heap.size w3 (w3.alloc (.cells #[.int .i64 1, .int .i64 1, .int .i64 0, .int .i64 2] 35)) := (Below.refl _ _).alloc (Nat.le_refl _) _
  have hnb := heap_alloc_new w3 (.cells #[.int .i64 1, .int .i64 1, .int .i64 0, .int .i64 2] 35)
  generalize (w3.alloc (.cells #[.int .i64 1, .int .i64 1, .int .i64 0, .int .i64 2] 35)) = x3 at hBx hnb ⊢
  have HS3 := Lib.hid (HSj.out.fresh hBx)
  have HB3 := Lib.hid (hB3.trans (hBx.mono hB3.size))
  have HW3 := Lib.hid hWj
  have hn1 := (Keeps.of_fresh hBx (fun _ => False)).grownTo (HKj.out.grownTo ((Keeps.of_fresh HBf.out (fun _ => False)).grownTo HA1.out id) HN1.out) id
  have hN1 : ¬ W3 w1.heap.size := fun e => by
    rcases HWW.out _ e with q | q
    · exact HN1.out q
    · have := HL1.out; have := HBf.out.size; omega
  have hn2 := (Keeps.of_fresh hBx (fun _ => False)).grownTo (HKj.out.grownTo ((Keeps.of_fresh HBf.out (fun _ => False)).grownTo HA2.out id) HN2.out) id
  have hN2 : ¬ W3 w2.heap.size := fun e => by
    rcases HWW.out _ e with q | q
    · exact HN2.out q
    · have := HL2.out; have := HBf.out.size; omega
  have hl3 : w3.heap.size < x3.heap.size := (Array.getElem?_eq_some_iff.1 hnb).1
  have hNj : ¬ W3 w3.heap.size := fun e => by have := HSj.out.lt _ (HSj.out.wf _ e); omega
  clear HA1 HN1 HL1 HA2 HN2 HL2
  have HA1 := Lib.hid hn1
  have HN1 := Lib.hid hN1
  have HL1 := Lib.hid (show w1.heap.size < x3.heap.size from (Array.getElem?_eq_some_iff.1 hn1).1)
  have HA2 := Lib.hid hn2
  have HN2 := Lib.hid hN2
  have HL2 := Lib.hid (show w2.heap.size < x3.heap.size from (Array.getElem?_eq_some_iff.1 hn2).1)
  have HA3 := Lib.hid hnb
  have HN3 := Lib.hid hNj
  have HL3 := Lib.hid hl3
  clear hBx hnb hNj hWj HSj HKj HWW HBf HC HSf HBw HO hK hS hW hszf hB3 hl3 hn1 hN1 hn2 hN2
  have a0 : x3.cell? ⟨w1.heap.size, 0, none⟩ = some (.int .i64 1) := cell_of_row x3 _ 0 _ _ _ HA1.out
  have a1 : x3.cell? ⟨w1.heap.size, 1, none⟩ = some (.int .i64 1) := cell_of_row x3 _ 1 _ _ _ HA1.out
  have a2 : x3.cell? ⟨w1.heap.size, 2, none⟩ = some (.int .i64 0) := cell_of_row x3 _ 2 _ _ _ HA1.out
  have a3 : x3.cell? ⟨w1.heap.size, 3, none⟩ = some (.int .i64 2) := cell_of_row x3 _ 3 _ _ _ HA1.out
  have b0 : x3.cell? ⟨w2.heap.size, 0, none⟩ = some (.int .i64 2) := cell_of_row x3 _ 0 _ _ _ HA2.out
  have b1 : x3.cell? ⟨w2.heap.size, 1, none⟩ = some (.int .i64 2) := cell_of_row x3 _ 1 _ _ _ HA2.out
  have b2 : x3.cell? ⟨w2.heap.size, 2, none⟩ = some (.int .i64 2) := cell_of_row x3 _ 2 _ _ _ HA2.out
  have b3 : x3.cell? ⟨w2.heap.size, 3, none⟩ = some (.int .i64 2) := cell_of_row x3 _ 3 _ _ _ HA2.out
  have c0 : x3.cell? ⟨w3.heap.size, 0, none⟩ = some (.int .i64 1) := cell_of_row x3 _ 0 _ _ _ HA3.out
  have c1 : x3.cell? ⟨w3.heap.size, 1, none⟩ = some (.int .i64 1) := cell_of_row x3 _ 1 _ _ _ HA3.out
  have c2 : x3.cell? ⟨w3.heap.size, 2, none⟩ = some (.int .i64 0) := cell_of_row x3 _ 2 _ _ _ HA3.out
  have c3 : x3.cell? ⟨w3.heap.size, 3, none⟩ = some (.int .i64 2) := cell_of_row x3 _ 3 _ _ _ HA3.out
  have he1 : ocEq ⟨1, 1, 0, 2⟩ ⟨1, 1, 0, 2⟩ = true := by decide
  have he2 : ocEq ⟨2, 2, 2, 2⟩ ⟨2, 2, 2, 2⟩ = true := by decide
  go_wp2_with fail
  go_ret
  exact ⟨rfl, HB3.out⟩
end Go.Proofs.YtlfhokcjbgpjhaaGreatDoor
