/- Records: the laws' sameMarks, shown. Under the tables that utf8 lays. -/
import Derived.Test.YtimfoijajafdpaaDoorRecC
namespace Go.Proofs.YtimfoijajafdpaaDoor
open Go.RowKit Go.Bl
attribute [local go_sem ↓] Go.wp_at_zero Go.wp_at_succ

/-- Are two marks unlike? Under a name that the walk does not open. -/
def mkNe (a b c d : Int) : Bool := decide (¬ ((⟨a, b⟩ : Mk) = ⟨c, d⟩))
theorem mkNe_false {x y : Mk} (h : x = y) : mkNe x.epoch x.first y.epoch y.first = false := by subst h; simp [mkNe]
theorem mkNe_true {x y : Mk} (h : ¬ x = y) : mkNe x.epoch x.first y.epoch y.first = true := by unfold mkNe; rw [decide_eq_true_eq]; exact h
theorem neqMk (a b c d : Int) (w : World) : (binOp .neq 37 (.agg #[.int .i64 a, .int .i64 b]) (.agg #[.int .i64 c, .int .i64 d])).run Tryd.prog w = .ok (.bool (mkNe a b c d)) w := by
  have u3 := Tryd.underlying3
  have a3 := Tryd.isAgg3
  have z3 := Tryd.sizeOf3
  have hS : Tryd.prog.underlying 37 = some (.struct (Tryd.prog.fieldsOf 37)) := by kernel_rfl
  have hp : Tryd.prog.stoodInHeld 37 = false := by kernel_rfl
  rw [run_neq_struct, show (10000 : Nat) = 9999 + 1 from rfl, run_equalIn_agg w 9999 37 _ _ hS hp]
  simp only [Program.fieldsOf, Tryd.underlying37]
  go_simp
  by_cases h1 : a = c <;> by_cases h2 : b = d <;> simp [mkNe, h1, h2]

set_option maxRecDepth 8000 in
set_option maxHeartbeats 1000000 in
theorem sameMarks_any (w : World) (G H : Nat → Prop) (v u : Value) (l m : List Mk) (hl : Sl w G 2 mkc v l) (hm : Sl w H 2 mkc u m) (_hll : l.length ≤ 1000000) :
    Calls Tryd.prog 26 #[v, u] w fun x w' => x = .returned (.bool (decide (l = m))) ∧ Below w.heap.size w w' := by
  have hne := neqMk
  obtain ⟨A, c, rfl, hA1, hA2⟩ := hl.shape
  obtain ⟨B, d, rfl, hB1, hB2⟩ := hm.shape
  unfold maxLen at hA2 hB2
  have HL := Lib.hid hl
  have HM := Lib.hid hm
  clear hl hm
  by_cases hlen : l.length = m.length
  · have d1 : ((l.length : Int) != (m.length : Int)) = false := by rw [hlen]; simp
    have HLN := Lib.hid hlen
    clear hlen
    go_enter Tryd.func26, Tryd.ntmps26
    go_wp2_with fail
    go_loopw [5] (fun i wr => ∃ k : Nat, k ≤ l.length ∧ i = .int .i64 k ∧ l.take k = m.take k ∧ Below w.heap.size w wr) (fun i _ => l.length - (intOf i).toNat)
    case atStart => exact ⟨0, Nat.zero_le _, rfl, rfl, Below.refl _ _⟩
    case round =>
      obtain ⟨k, hk, rfl, ht, hB⟩ := hrel
      have HB := Lib.hid hB
      have HT := Lib.hid ht
      clear hB ht
      by_cases hlt : k < l.length
      · have hlt2 : k < m.length := by have := HLN.out; omega
        obtain ⟨b, o, rfl, _, hbl, hxx⟩ := (HL.out.fresh HB.out).cell_ hlt
        obtain ⟨b2, o2, rfl, _, hbl2, hyy⟩ := (HM.out.fresh HB.out).cell_ hlt2
        have x0 := hxx 0 _ rfl
        have x1 := hxx 1 _ rfl
        have y0 := hyy 0 _ rfl
        have y1 := hyy 1 _ rfl
        simp only [Nat.add_zero] at x0 y0
        clear hxx hyy
        have hkk : k < 9223372036854775807 := by omega
        by_cases he : l[k] = m[k]
        · have hd := mkNe_false he
          have HE := Lib.hid he
          clear he
          go_wp2_with fail
          go_quiet (fail)
          go_wp2_with fail
          go_roundw
          case rel => exact ⟨k + 1, hlt, by go_num, by rw [List.take_succ_eq_append_getElem hlt, List.take_succ_eq_append_getElem hlt2, HT.out, HE.out], HB.out.trans ⟨rfl, rfl, rfl, Nat.le_refl _, fun _ _ => rfl⟩⟩
          case measure => simp [intOf]; omega
        · have hd := mkNe_true he
          have hf : decide (l = m) = false := by
            rw [decide_eq_false_iff_not]; intro h; subst h; exact he rfl
          have HF := Lib.hid hf
          clear he hf
          go_wp2_with fail
          go_quiet (fail)
          go_wp2_with fail
          go_ret
          rw [HF.out]
          exact ⟨rfl, HB.out.trans ⟨rfl, rfl, rfl, Nat.le_refl _, fun _ _ => rfl⟩⟩
      · have hkd : k = l.length := by omega
        subst hkd
        have ht := HT.out
        rw [List.take_length, HLN.out, List.take_length] at ht
        have hf : decide (l = m) = true := decide_eq_true ht
        have HF := Lib.hid hf
        clear ht hf
        go_wp2_with fail
        go_ret
        rw [HF.out]
        exact ⟨rfl, HB.out⟩
  · have d1 : ((l.length : Int) != (m.length : Int)) = true := by simp; omega
    have hf : decide (l = m) = false := by rw [decide_eq_false_iff_not]; intro h; exact hlen (by rw [h])
    rw [hf]
    clear hf hlen
    go_enter Tryd.func26, Tryd.ntmps26
    go_wp2_with fail
    go_ret
    exact ⟨rfl, Below.refl _ _⟩

/-- A block that the call has made reads as the row that it is. -/
theorem own_block {α : Type} {w : World} {base g size : Nat} {e : TypeId} {enc : α → List Value} {cs : Array Value} {l : List α} {n : Nat} (hg : w.heap[g]? = some (.cells cs e (0, 0))) (hb : base ≤ g) (hn : l.length = n) (hc : cs.toList = l.flatMap enc) (E : ∀ x, (enc x).length = size) (hm : n ≤ maxLen) :
    Own w base e size enc (.slice (some ⟨g, 0, none⟩) n n) l := by
  subst hn
  have hl : cs.size = l.length * size := by rw [← Array.length_toList, hc, flatMap_len enc size E]
  exact ⟨by rw [flatMap_len enc size E], .inr ⟨g, l.length, cs, rfl, hb, hg, Nat.le_refl _, hm, hl, by rw [← hl, ← Array.length_toList, List.take_length]; exact hc⟩⟩
theorem entc_len (a : Ent) : (entc a).length = 7 := rfl
theorem mkc_len (a : Mk) : (mkc a).length = 2 := rfl
theorem plain_ok {w : World} {g : Nat} {fr : Nat × Nat} (hg : w.heap[g]? = some (.cells #[.string ⟨#[107]⟩, .string ⟨#[]⟩] 55 fr)) (pos epoch : Int) : BatchOk w (fun k => k < w.heap.size) (plainE g pos epoch) := by
  refine ⟨(Sl.single (k := 2) (enc := evc) (x := ⟨⟨#[107]⟩, ⟨#[]⟩⟩) hg rfl).mono (fun _ h _ => h), ?_, ?_, ?_⟩
  · intro e he
    rw [List.mem_singleton.1 he]
    exact ⟨by decide, by decide⟩
  · show (1 : Nat) ≤ _
    omega
  · show (1 : Nat) ≤ _
    omega
theorem plain_at (w : World) (pos epoch : Int) :
    Calls Tryd.prog 9 #[.int .i64 pos, .int .i64 epoch] w fun x w' => ∃ g, w.heap.size ≤ g ∧ g < w'.heap.size ∧ x = .returned (.agg #[.int .i64 pos, .int .i64 epoch, .string ⟨#[115]⟩, .int .i64 0, .int .i64 1, .int .i64 1, .slice (some ⟨g, 0, none⟩) 1 1]) ∧ w'.heap[g]? = some (.cells #[.string ⟨#[107]⟩, .string ⟨#[]⟩] 55 (0, 0)) ∧ Below w.heap.size w w' :=
  plain_any w pos epoch
theorem forkOf_sorted {a b : List Mk} {last k : Int} (hk : k ≤ last) (hlow : ∀ p, 1 ≤ p → p ≤ k → forkP a b last p = false) (hup : k < last → (k = 0 ∨ ∃ m ∈ a ++ b, m.first = k + 1) ∧ forkP a b last (k + 1) = true) :
    forkOf a b last ((1 :: (a ++ b).map (·.first)).mergeSort fun x y => decide (x ≤ y)) = k := by
  refine fork_eq ?_ hk hlow (fun h => ⟨?_, (hup h).2⟩)
  · have := List.pairwise_mergeSort (le := fun x y : Int => decide (x ≤ y)) (fun a b c => by simp; omega) (fun a b => by simp; omega) (1 :: (a ++ b).map (·.first))
    exact this.imp (fun h => of_decide_eq_true h)
  · rw [List.mem_mergeSort]
    rcases (hup h).1 with e | ⟨m, hm, e⟩
    · subst e
      exact List.mem_cons_self
    · exact List.mem_cons_of_mem _ (List.mem_map.2 ⟨m, hm, e⟩)
theorem shown_fork : forkOf ([⟨1, 1⟩, ⟨2, 4⟩] : List Mk) ([⟨1, 1⟩, ⟨3, 5⟩] : List Mk) (gmax (gmin 6 7) 0) ((1 :: (([⟨1, 1⟩, ⟨2, 4⟩] : List Mk) ++ ([⟨1, 1⟩, ⟨3, 5⟩] : List Mk)).map (·.first)).mergeSort fun x y => decide (x ≤ y)) = 3 := by
  refine forkOf_sorted (a := [⟨1, 1⟩, ⟨2, 4⟩]) (b := [⟨1, 1⟩, ⟨3, 5⟩]) (last := 6) (k := 3) (by decide) (fun p h1 h2 => ?_) (fun _ => ⟨.inr ⟨⟨2, 4⟩, by decide, rfl⟩, by decide⟩)
  have : p = 1 ∨ p = 2 ∨ p = 3 := by omega
  rcases this with rfl | rfl | rfl <;> decide
theorem fits_plain (g : Nat) (pos epoch : Int) : fitsI (plainE g pos epoch) = 0 := by kernel_rfl
theorem right_plain (g : Nat) {pos epoch : Int} (h1 : 1 ≤ pos) (h2 : pos ≤ 274877906944) (h3 : 1 ≤ epoch) (h4 : epoch ≤ 274877906944) : rightB (plainE g pos epoch) = true := by
  unfold rightB
  rw [fits_plain]
  simp [numB, plainE, h1, h2, h3, h4]

set_option maxRecDepth 10000 in
set_option maxHeartbeats 2000000 in
theorem shown_any (w : World) (hT : Tabs w) : Calls Tryd.prog 8 #[] w fun x w' => x = .returned (.bool true) ∧ Below w.heap.size w w' := by
  have HT := Lib.hid hT
  clear hT
  go_enter Tryd.func8, Tryd.ntmps8
  go_upto_region 3 with (fail)
  have hW : Below w.heap.size w ((w.alloc (.cells #[.int .i64 1, .int .i64 1, .int .i64 2, .int .i64 4] 37)).alloc (.cells #[.int .i64 1, .int .i64 1, .int .i64 3, .int .i64 5] 37)) := ((Below.refl _ w).alloc (Nat.le_refl _) _).alloc (by simp) _
  have hb1 : ((w.alloc (.cells #[.int .i64 1, .int .i64 1, .int .i64 2, .int .i64 4] 37)).alloc (.cells #[.int .i64 1, .int .i64 1, .int .i64 3, .int .i64 5] 37)).heap[w.heap.size]? = some (.cells #[.int .i64 1, .int .i64 1, .int .i64 2, .int .i64 4] 37 (0, 0)) := (Below.heap_alloc _ _ _ (by simp)).trans (heap_alloc_new w _)
  have hb2 := heap_alloc_new (w.alloc (.cells #[.int .i64 1, .int .i64 1, .int .i64 2, .int .i64 4] 37)) (.cells #[.int .i64 1, .int .i64 1, .int .i64 3, .int .i64 5] 37)
  rw [World.size_alloc] at hb2
  generalize (w.alloc (.cells #[.int .i64 1, .int .i64 1, .int .i64 2, .int .i64 4] 37)).alloc (.cells #[.int .i64 1, .int .i64 1, .int .i64 3, .int .i64 5] 37) = w1 at hW hb1 hb2 ⊢
  have HA := Lib.hid (((own_block (l := [⟨1, 1⟩, ⟨2, 4⟩]) hb1 (Nat.zero_le _) (n := 2) rfl rfl mkc_len (by unfold maxLen; omega)).sl mkc_len).mono (F' := fun _ => True) (fun _ _ _ => trivial))
  have HB := Lib.hid (((own_block (l := [⟨1, 1⟩, ⟨3, 5⟩]) hb2 (Nat.zero_le _) (n := 2) rfl rfl mkc_len (by unfold maxLen; omega)).sl mkc_len).mono (F' := fun _ => True) (fun _ _ _ => trivial))
  have HW := Lib.hid hW
  clear hW hb1 hb2
  go_wp2_with fail
  refine (plain_at w1 1 1).mono ?_
  rintro x w2 ⟨g1, _, hg1, rfl, hr1, hB2⟩
  have HB2 := Lib.hid hB2
  have HR1 := Lib.hid hr1
  clear hB2 hr1
  go_wp2_with fail
  refine (plain_at w2 2 1).mono ?_
  rintro x w3 ⟨g2, _, hg2, rfl, hr2, hB3⟩
  have HR2 := Lib.hid hr2
  have HR1 := Lib.hid ((hB3.block _ hg1).trans HR1.out)
  have HB3 := Lib.hid (HB2.out.trans (hB3.mono HB2.out.size))
  clear hB3 hr2
  go_wp2_with fail
  refine (plain_at w3 3 2).mono ?_
  rintro x w4 ⟨g3, _, hg3, rfl, hr3, hB4⟩
  have HR3 := Lib.hid hr3
  have HR2 := Lib.hid ((hB4.block _ hg2).trans HR2.out)
  have HR1 := Lib.hid ((hB4.block _ (Array.getElem?_eq_some_iff.1 HR1.out).1).trans HR1.out)
  have HB4 := Lib.hid (HB3.out.trans (hB4.mono HB3.out.size))
  clear hB4 hr3
  go_wp2_with fail
  have hB5 : Below w4.heap.size w4 (w4.alloc (.cells #[.int .i64 1, .int .i64 1, .string ⟨#[115]⟩, .int .i64 0, .int .i64 1, .int .i64 1, .slice (some ⟨g1, 0, none⟩) 1 1, .int .i64 2, .int .i64 1, .string ⟨#[115]⟩, .int .i64 0, .int .i64 1, .int .i64 1, .slice (some ⟨g2, 0, none⟩) 1 1, .int .i64 3, .int .i64 2, .string ⟨#[115]⟩, .int .i64 0, .int .i64 1, .int .i64 1, .slice (some ⟨g3, 0, none⟩) 1 1] 29)) := (Below.refl _ w4).alloc (Nat.le_refl _) _
  have hblk := heap_alloc_new w4 (.cells #[.int .i64 1, .int .i64 1, .string ⟨#[115]⟩, .int .i64 0, .int .i64 1, .int .i64 1, .slice (some ⟨g1, 0, none⟩) 1 1, .int .i64 2, .int .i64 1, .string ⟨#[115]⟩, .int .i64 0, .int .i64 1, .int .i64 1, .slice (some ⟨g2, 0, none⟩) 1 1, .int .i64 3, .int .i64 2, .string ⟨#[115]⟩, .int .i64 0, .int .i64 1, .int .i64 1, .slice (some ⟨g3, 0, none⟩) 1 1] 29)
  generalize w4.alloc (.cells #[.int .i64 1, .int .i64 1, .string ⟨#[115]⟩, .int .i64 0, .int .i64 1, .int .i64 1, .slice (some ⟨g1, 0, none⟩) 1 1, .int .i64 2, .int .i64 1, .string ⟨#[115]⟩, .int .i64 0, .int .i64 1, .int .i64 1, .slice (some ⟨g2, 0, none⟩) 1 1, .int .i64 3, .int .i64 2, .string ⟨#[115]⟩, .int .i64 0, .int .i64 1, .int .i64 1, .slice (some ⟨g3, 0, none⟩) 1 1] 29) = w5 at hB5 hblk ⊢
  have hE : Ents w5 (fun k => k < w5.heap.size) (.slice (some ⟨w4.heap.size, 0, none⟩) 3 3) [plainE g1 1 1, plainE g2 2 1, plainE g3 3 2] := by
    refine ⟨((own_block (n := 3) (enc := entc) hblk (Nat.zero_le _) rfl rfl entc_len (by unfold maxLen; omega)).sl entc_len).mono (fun _ h _ => h), fun a ha => ?_⟩
    rcases List.mem_cons.1 ha with rfl | ha
    · exact plain_ok ((hB5.block _ (Array.getElem?_eq_some_iff.1 HR1.out).1).trans HR1.out) 1 1
    rcases List.mem_cons.1 ha with rfl | ha
    · exact plain_ok ((hB5.block _ (Array.getElem?_eq_some_iff.1 HR2.out).1).trans HR2.out) 2 1
    rw [List.mem_singleton.1 ha]
    exact plain_ok ((hB5.block _ hg3).trans HR3.out) 3 2
  have HB5 := Lib.hid (HB4.out.trans (hB5.mono HB4.out.size))
  refine (marks_any w5 (fun k => k < w5.heap.size) (fun _ h => h) _ _ hE (by simp)).mono ?_
  rintro x w6 ⟨v6, rfl, hO6, hB6⟩
  rw [show marksN (peOf [plainE g1 1 1, plainE g2 2 1, plainE g3 3 2]) [plainE g1 1 1, plainE g2 2 1, plainE g3 3 2].length = [⟨1, 1⟩, ⟨2, 3⟩] by kernel_rfl] at hO6
  have HO6 := Lib.hid hO6
  have HB6 := Lib.hid (HB5.out.trans (hB6.mono HB5.out.size))
  clear hE hB5 hblk hO6 hB6
  go_wp2_with fail
  refine (fork_any w6 _ _ _ _ ((HA.out.fresh (HB6.out.mono (Nat.le_refl _)))) (HB.out.fresh HB6.out) (by simp) (by simp) 6 7 (by omega)).mono ?_
  rintro x w7 ⟨rfl, hB7⟩
  rw [shown_fork]
  have HB7 := Lib.hid (HB6.out.trans (hB7.mono HB6.out.size))
  have HO7 := Lib.hid (HO6.out.fresh hB7)
  clear hB7
  go_wp2_with fail
  have hB8 : Below w7.heap.size w7 (w7.alloc (.cells #[.int .i64 1, .int .i64 1, .int .i64 2, .int .i64 3] 37)) := (Below.refl _ w7).alloc (Nat.le_refl _) _
  have hblk := heap_alloc_new w7 (.cells #[.int .i64 1, .int .i64 1, .int .i64 2, .int .i64 3] 37)
  generalize w7.alloc (.cells #[.int .i64 1, .int .i64 1, .int .i64 2, .int .i64 3] 37) = w8 at hB8 hblk ⊢
  refine (sameMarks_any w8 _ _ _ _ [⟨1, 1⟩, ⟨2, 3⟩] [⟨1, 1⟩, ⟨2, 3⟩] ((HO7.out.fresh hB8).sl mkc_len) ((own_block (n := 2) hblk (Nat.zero_le _) rfl rfl mkc_len (by unfold maxLen; omega)).sl mkc_len) (by simp)).mono ?_
  rintro x w9 ⟨rfl, hB9⟩
  rw [show decide (([⟨1, 1⟩, ⟨2, 3⟩] : List Mk) = [⟨1, 1⟩, ⟨2, 3⟩]) = true by decide]
  have HB9 := Lib.hid ((HB7.out.trans (hB8.mono HB7.out.size)).trans (hB9.mono (Nat.le_trans HB7.out.size hB8.size)))
  clear hB8 hB9 hblk
  go_wp2_with fail
  refine (plain_at w9 1 1).mono ?_
  rintro x w10 ⟨g4, _, hg4, rfl, hr4, hB10⟩
  have HB10 := Lib.hid (HW.out.trans ((HB9.out.trans (hB10.mono HB9.out.size)).mono HW.out.size))
  have HR4 := Lib.hid hr4
  clear hB10 hr4
  go_wp2_with fail
  refine (right_any w10 (HT.out.fresh HB10.out) _ (plainE g4 1 1) (plain_ok HR4.out 1 1)).mono ?_
  rintro x w11 ⟨rfl, hB11⟩
  rw [right_plain g4 (by decide) (by decide) (by decide) (by decide)]
  have HB11 := Lib.hid (HB10.out.trans (hB11.mono HB10.out.size))
  clear hB11
  go_wp2_with fail
  go_ret
  exact ⟨rfl, HB11.out⟩
end Go.Proofs.YtimfoijajafdpaaDoor
