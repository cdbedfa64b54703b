/- The manifest: Right, Save. Under the stated premises on sizes. -/
import Derived.Test.YthdehdlbocgfaaaDoorManC
import Derived.Test.YthdehdlbocgfaaaDoorBldA
namespace Go.Proofs.YthdehdlbocgfaaaDoor
open Go.RowKit Go.Bl
attribute [local go_sem ↓] Go.wp_at_zero Go.wp_at_succ

/-- Do numbers rise, from a on? -/
def risB : Int → List Int → Bool
  | _, [] => true
  | a, x :: l => decide (a < x) && risB x l
def lastI : Int → List Int → Int
  | a, [] => a
  | _, x :: l => lastI x l
def rightB (n : Int) (l : List Int) : Bool := risB 0 l && decide (lastI 0 l < n) && decide (n ≤ 1073741824) && decide (l.length ≤ 30)
theorem risB_snoc : ∀ (a : Int) (l : List Int) (x : Int), risB a (l ++ [x]) = (risB a l && decide (lastI a l < x))
  | a, [], x => by
    show (decide (a < x) && true) = (true && decide (a < x))
    rw [Bool.and_true, Bool.true_and]
  | a, y :: l, x => by
    show (decide (a < y) && risB y (l ++ [x])) = ((decide (a < y) && risB y l) && decide (lastI y l < x))
    rw [risB_snoc y l x, Bool.and_assoc]
theorem lastI_snoc : ∀ (a : Int) (l : List Int) (x : Int), lastI a (l ++ [x]) = x
  | _, [], _ => rfl
  | _, y :: l, x => lastI_snoc y l x
theorem risB_take : ∀ (a : Int) (l : List Int) (k : Nat), risB a (l.take k) = false → risB a l = false
  | _, [], k, h => by simpa using h
  | _, y :: l, 0, h => by simp [risB] at h
  | a, y :: l, k + 1, h => by
    rw [List.take_succ_cons] at h
    simp only [risB, Bool.and_eq_false_iff] at h ⊢
    exact h.imp id (risB_take y l k)
set_option maxRecDepth 8000 in
set_option maxHeartbeats 2000000 in
theorem right_any (w : World) (n : Int) (v : Value) (l : List Int) (G : Nat → Prop) (h : Sl w G 1 intc v l) :
    Calls Tryd.prog 17 #[.agg #[.int .i64 n, v]] w fun e w' => e = .returned (.bool (rightB n l)) ∧ Below w.heap.size w w' := by
  obtain ⟨A, c, rfl, hA1, hA2⟩ := h.shape
  unfold maxLen at hA2
  have hB0 : Below w.heap.size w (w.alloc (.cells #[.int .i64 n, .slice A l.length c] 39)) := (Below.refl _ w).alloc (Nat.le_refl _) _
  have hblk := heap_alloc_new w (.cells #[.int .i64 n, .slice A l.length c] 39)
  have H := Lib.hid (h.fresh hB0)
  have HB := Lib.hid hB0
  have HBK := Lib.hid hblk
  clear h hB0 hblk
  go_enter Tryd.func17, Tryd.ntmps17
  go_upto_region 1 with (fail)
  obtain ⟨b, hb⟩ : ∃ b, w.heap.size = b := ⟨_, rfl⟩
  rw [hb] at HB HBK ⊢
  generalize w.alloc (.cells #[.int .i64 n, .slice A l.length c] 39) = w1 at H HB HBK ⊢
  have c0 : w1.cell? ⟨b, 0, none⟩ = some (.int .i64 n) := cell_of_row w1 b 0 _ _ _ HBK.out
  have c1 : w1.cell? ⟨b, 1, none⟩ = some (.slice A l.length c) := cell_of_row w1 b 1 _ _ _ HBK.out
  go_wp2_with fail
  go_loop [3, 9] (fun a i => ∃ (k : Nat), k ≤ l.length ∧ a = .int .i64 (lastI 0 (l.take k)) ∧ i = .int .i64 k ∧ Hid (risB 0 (l.take k) = true)) (fun _ i => l.length - (intOf i).toNat)
  case atStart => exact ⟨0, Nat.zero_le _, rfl, rfl, Lib.hid rfl⟩
  case round =>
    obtain ⟨k, hk, rfl, rfl, hr⟩ := hrel
    by_cases hlt : k < l.length
    · have d0 : decide ((k : Int) < (l.length : Int)) = true := by simp; omega
      obtain ⟨q, o, rfl, _, _, hxx⟩ := H.out.cell_ hlt
      have x0 := hxx 0 _ rfl
      rw [Nat.mul_one, Nat.add_zero] at x0
      have ht := List.take_succ_eq_append_getElem hlt
      have hs1 := risB_snoc 0 (l.take k) l[k]
      have hs2 := lastI_snoc 0 (l.take k) l[k]
      rw [← ht] at hs1 hs2
      rw [hr.out, Bool.true_and] at hs1
      obtain ⟨x, hx⟩ : ∃ x, x = l[k] := ⟨_, rfl⟩
      rw [← hx] at x0 hs1 hs2
      obtain ⟨a, ha⟩ : ∃ a, a = lastI 0 (l.take k) := ⟨_, rfl⟩
      rw [← ha] at hs1 ⊢
      have HS1 := Lib.hid hs1
      have HS2 := Lib.hid hs2
      clear hxx ht hs1 hs2 hx ha
      by_cases hxa : a < x
      · have d1 : decide (x ≤ a) = false := by simp; omega
        go_wp2_with fail
        go_round
        case rel => exact ⟨k + 1, by omega, by rw [HS2.out], by go_num, Lib.hid (by rw [HS1.out]; simpa using hxa)⟩
        case measure => simp [intOf]; omega
      · have d1 : decide (x ≤ a) = true := by simp; omega
        go_wp2_with fail
        go_ret
        have hf : risB 0 l = false := risB_take 0 l (k + 1) (by rw [HS1.out]; simpa using hxa)
        have : rightB n l = false := by unfold rightB; rw [hf]; rfl
        rw [this]
        exact ⟨rfl, hb ▸ HB.out⟩
    · have hkl : k = l.length := by omega
      subst hkl
      have h2 := hr.out
      rw [List.take_of_length_le (Nat.le_refl _)] at h2 ⊢
      have hR : Hid (rightB n l = (decide (lastI 0 l < n) && decide (n ≤ 1073741824) && decide (l.length ≤ 30))) := Lib.hid (by unfold rightB; rw [h2, Bool.true_and])
      clear h2
      obtain ⟨a, ha⟩ : ∃ a, a = lastI 0 l := ⟨_, rfl⟩
      rw [← ha] at hR ⊢
      clear ha
      have d0 : decide ((l.length : Int) < (l.length : Int)) = false := by simp
      by_cases t1 : a < n
      · by_cases t2 : n ≤ 1073741824
        · have t2' : decide (n ≤ 1073741824) = true := by simpa using t2
          by_cases t3 : l.length ≤ 30
          · have t3' : decide ((l.length : Int) ≤ 30) = true := by simp; omega
            have hv : rightB n l = true := by rw [hR.out, decide_eq_true t1, t2', decide_eq_true t3]; rfl
            go_wp2_with fail
            go_ret
            exact ⟨rfl, hb ▸ HB.out⟩
          · have t3' : decide ((l.length : Int) ≤ 30) = false := by simp; omega
            have hv : rightB n l = false := by rw [hR.out, decide_eq_false t3, Bool.and_false]
            go_wp2_with fail
            go_ret
            exact ⟨rfl, hb ▸ HB.out⟩
        · have t2' : decide (n ≤ 1073741824) = false := by simpa using t2
          have hv : rightB n l = false := by rw [hR.out, t2', Bool.and_false, Bool.false_and]
          go_wp2_with fail
          go_ret
          exact ⟨rfl, hb ▸ HB.out⟩
      · have hv : rightB n l = false := by rw [hR.out, decide_eq_false t1, Bool.false_and, Bool.false_and]
        go_wp2_with fail
        go_ret
        exact ⟨rfl, hb ▸ HB.out⟩
/-- The bytes of a number. -/
def pb (n : Int) : List UInt8 := bytesOf (putL n.toNat)
theorem pb_len {n : Int} (h : n ≤ 1099511627776) : 0 < (pb n).length ∧ (pb n).length ≤ 6 := by
  unfold pb bytesOf
  rw [List.length_map]
  exact ⟨putL_pos _, putL_len 5 n.toNat (by omega)⟩
def manL (n : Int) (l : List Int) : List UInt8 := pb n ++ pb l.length ++ l.flatMap pb
theorem flat_len : ∀ (l : List Int), (∀ x ∈ l, x ≤ 1099511627776) → (l.flatMap pb).length ≤ 6 * l.length
  | [], _ => by simp
  | x :: l, h => by
    have := flat_len l (fun y hy => h y (List.mem_cons_of_mem _ hy))
    have := (pb_len (h x (List.mem_cons_self ..))).2
    rw [List.flatMap_cons, List.length_append, List.length_cons]
    omega
theorem risB_bd : ∀ (a : Int) (l : List Int), risB a l = true → ∀ x ∈ l, a < x ∧ x ≤ lastI a l
  | _, [], _, x, hx => by cases hx
  | a, y :: l, h, x, hx => by
    simp only [risB, Bool.and_eq_true, decide_eq_true_eq] at h
    have hy : y ≤ lastI y l := by
      cases l with
      | nil => exact Int.le_refl _
      | cons z l =>
        have := risB_bd y (z :: l) h.2 z (List.mem_cons_self ..)
        omega
    rcases List.mem_cons.1 hx with rfl | hx
    · exact ⟨h.1, hy⟩
    · have := risB_bd y l h.2 x hx
      exact ⟨by omega, this.2⟩
theorem rightB_bd {n : Int} {l : List Int} (h : rightB n l = true) : 1 ≤ n ∧ n ≤ 1073741824 ∧ l.length ≤ 30 ∧ ∀ x ∈ l, 0 < x ∧ x < n := by
  simp only [rightB, Bool.and_eq_true, decide_eq_true_eq] at h
  obtain ⟨⟨⟨h1, h2⟩, h3⟩, h4⟩ := h
  have h5 : ∀ x ∈ l, 0 < x ∧ x < n := fun x hx => by
    have := risB_bd 0 l h1 x hx
    omega
  refine ⟨?_, h3, h4, h5⟩
  cases l with
  | nil => have : lastI 0 [] = 0 := rfl; omega
  | cons x l => have := h5 x (List.mem_cons_self ..); omega
theorem save1_any (w : World) (B b : Nat) (l : List UInt8) (n : Int) (h : Bld w B b l) (hn0 : 0 ≤ n) (hn : n ≤ 1099511627776) (hl : l.length ≤ 1000000) (hB : B ≤ w.heap.size) :
    Calls Tryd.prog 26 #[.int .i64 n, .pointer (some ⟨b, 0, none⟩)] w fun e w' => e = .returned (.tuple #[]) ∧ Bld w' B b (l ++ pb n) ∧ Below B w w' := by
  have hp := put_any w n n.toNat (by unfold holdI gmax gmin; omega)
  have HP := Lib.hid hp
  have H := Lib.hid h
  have h6 := (pb_len hn).2
  have hs : (putB n.toNat).size ≤ 6 := h6
  clear hp h h6
  go_enter Tryd.func26, Tryd.ntmps26
  go_wp2_with fail
  refine HP.out.mono ?_
  rintro e w1 ⟨rfl, hB1⟩
  have H1 := Lib.hid (H.out.fresh hB1)
  have HB1 := Lib.hid (hB1.mono hB)
  have hB1s := hB1.size
  clear hB1
  go_wp2_with fail
  refine (bld_write H1.out (putB n.toNat) (by omega) (by omega)).mono ?_
  rintro e w2 ⟨rfl, h2, hB2⟩
  have H2 := Lib.hid h2
  have HB2 := Lib.hid (HB1.out.trans hB2)
  clear h2 hB2
  go_wp2_with fail
  go_end0
  exact ⟨rfl, H2.out, HB2.out⟩
def Dk.save (d : Dk) (n : Int) (l : List Int) : Int × Dk := if rightB n l = true then d.wr sFile (Bl (frmL crcU (manL n l))) else (1, d)
set_option maxRecDepth 8000 in
set_option maxHeartbeats 2000000 in
theorem saveQ {X : Nat → Prop} {w : World} {p : Nat} {d : Dk} (h : Qd X w p d) (n : Int) (v : Value) (l : List Int) (G : Nat → Prop) (hs : Sl w G 1 intc v l) :
    Calls Tryd.prog 13 #[.pointer (some ⟨p, 0, none⟩), .agg #[.int .i64 n, v]] w fun e w' => e = .returned (.int .i64 (d.save n l).1) ∧ Qd X w' p (d.save n l).2 ∧ Kx X w w' := by
  obtain ⟨A, c, rfl, hA1, hA2⟩ := hs.shape
  unfold maxLen at hA2
  have hB0 : Below w.heap.size w (w.alloc (.cells #[.int .i64 n, .slice A l.length c] 39)) := (Below.refl _ w).alloc (Nat.le_refl _) _
  have hblk := heap_alloc_new w (.cells #[.int .i64 n, .slice A l.length c] 39)
  have HS := Lib.hid (hs.fresh hB0)
  have HB := Lib.hid hB0
  have HBK := Lib.hid hblk
  have H := Lib.hid (h.fresh hB0)
  clear h hs hB0 hblk
  go_enter Tryd.func13, Tryd.ntmps13
  go_upto_region 1 with (fail)
  obtain ⟨b, hb⟩ : ∃ b, w.heap.size = b := ⟨_, rfl⟩
  rw [hb] at HB HBK ⊢
  generalize w.alloc (.cells #[.int .i64 n, .slice A l.length c] 39) = w1 at H HS HB HBK ⊢
  have c0 : w1.cell? ⟨b, 0, none⟩ = some (.int .i64 n) := cell_of_row w1 b 0 _ _ _ HBK.out
  have c1 : w1.cell? ⟨b, 1, none⟩ = some (.slice A l.length c) := cell_of_row w1 b 1 _ _ _ HBK.out
  go_wp2_with fail
  refine (right_any w1 n _ l G HS.out).mono ?_
  rintro e w2 ⟨rfl, hB2⟩
  have HB2 := Lib.hid (HB.out.trans (hB2.mono (hb ▸ HB.out.size)))
  have H2 := Lib.hid (H.out.fresh hB2)
  have HS2 := Lib.hid (HS.out.fresh hB2)
  have hbl := (Array.getElem?_eq_some_iff.1 HBK.out).1
  have HBK2 := Lib.hid ((hB2.block b hbl).trans HBK.out)
  clear hB2 c0 c1
  cases hR : rightB n l with
  | false =>
    go_wp2_with fail
    go_ret
    have e1 : d.save n l = (1, d) := by unfold Dk.save; rw [if_neg (by rw [hR]; decide)]
    rw [e1]
    exact ⟨rfl, H2.out, Kx.of_below (hb ▸ HB2.out)⟩
  | true =>
    obtain ⟨hn1, hn2, hl30, hx⟩ := rightB_bd hR
    have HR := Lib.hid hR
    have HX := Lib.hid hx
    clear hR hx
    go_upto_region 4 with (fail)
    have hbd := bld_new w2
    have hB3 : Below w2.heap.size w2 (w2.alloc (.cells #[.pointer none, .slice none 0 0] 69)) := (Below.refl _ w2).alloc (Nat.le_refl _) _
    obtain ⟨B, hBB⟩ : ∃ B, w2.heap.size = B := ⟨_, rfl⟩
    have hbB : b < B := by
      have := (Array.getElem?_eq_some_iff.1 HBK2.out).1
      omega
    rw [hBB] at hbd hB3 ⊢
    generalize w2.alloc (.cells #[.pointer none, .slice none 0 0] 69) = w3 at hbd hB3 ⊢
    have HBD := Lib.hid hbd
    have HB3 := Lib.hid hB3
    have HBB := Lib.hid hBB
    clear hbd hB3 hBB
    have c0 : w3.cell? ⟨b, 0, none⟩ = some (.int .i64 n) := (HB3.out.cell (p := ⟨b, 0, none⟩) hbB).trans (cell_of_row w2 b 0 _ _ _ HBK2.out)
    go_wp2_with fail
    have hs3 : B ≤ w3.heap.size := by have := HB3.out.size; have := HBB.out; omega
    refine (save1_any w3 B B [] n HBD.out (by omega) (by omega) (by decide) hs3).mono ?_
    rintro e w4 ⟨rfl, hD4, hB4⟩
    have HD4 := Lib.hid hD4
    have HB4 := Lib.hid (HB3.out.trans hB4)
    have hs4 : B ≤ w4.heap.size := Nat.le_trans hs3 hB4.size
    clear hD4 hB4 c0
    have c1 : w4.cell? ⟨b, 1, none⟩ = some (.slice A l.length c) := (HB4.out.cell (p := ⟨b, 1, none⟩) hbB).trans (cell_of_row w2 b 1 _ _ _ HBK2.out)
    have hp6 := (pb_len (n := n) (by omega)).2
    go_wp2_with fail
    refine (save1_any w4 B B _ (l.length : Int) HD4.out (by omega) (by omega) (by simp; omega) hs4).mono ?_
    rintro e w5 ⟨rfl, hD5, hB5⟩
    have hp7 := (pb_len (n := (l.length : Int)) (by omega)).2
    have HD5 : Hid (Bld w5 B B (pb n ++ pb l.length)) := Lib.hid (by simpa using hD5)
    have HB5 := Lib.hid (HB4.out.trans hB5)
    have hs5 : B ≤ w5.heap.size := Nat.le_trans hs4 hB5.size
    clear hD5 hB5 c1
    have c1 : w5.cell? ⟨b, 1, none⟩ = some (.slice A l.length c) := (HB5.out.cell (p := ⟨b, 1, none⟩) hbB).trans (cell_of_row w2 b 1 _ _ _ HBK2.out)
    go_wp2_with fail
    clear c1
    go_loopw [27] (fun i wr => ∃ k : Nat, k ≤ l.length ∧ i = .int .i64 k ∧ Bld wr B B (pb n ++ pb l.length ++ (l.take k).flatMap pb) ∧ Below B w2 wr) (fun i _ => l.length - (intOf i).toNat)
    case atStart => exact ⟨0, Nat.zero_le _, rfl, by simpa using HD5.out, HB5.out⟩
    case round =>
      obtain ⟨k, hk, rfl, hDr, hBr⟩ := hrel
      have HDr := Lib.hid hDr
      have HBr := Lib.hid hBr
      have hsr : B ≤ wr.heap.size := by have := hBr.size; have := HBB.out; omega
      clear hDr hBr
      have hfl := flat_len (l.take k) (fun x hx => by have := HX.out x (List.mem_of_mem_take hx); omega)
      have htl := List.length_take_le k l
      by_cases hlt : k < l.length
      · have d0 : decide ((k : Int) < (l.length : Int)) = true := by simp; omega
        have hSr := HS2.out.fresh (w' := wr) (by rw [HBB.out]; exact HBr.out)
        obtain ⟨q, o, rfl, _, _, hxx⟩ := hSr.cell_ hlt
        have x0 := hxx 0 _ rfl
        rw [Nat.mul_one, Nat.add_zero] at x0
        have hxl := HX.out l[k] (List.getElem_mem hlt)
        have ht := List.take_succ_eq_append_getElem hlt
        obtain ⟨x, hx⟩ : ∃ x, x = l[k] := ⟨_, rfl⟩
        rw [← hx] at x0 hxl ht
        have HT := Lib.hid ht
        clear hxx hx ht hSr
        go_wp2_with fail
        refine (save1_any wr B B _ x HDr.out (by omega) (by omega) (by rw [List.length_append, List.length_append]; omega) hsr).mono ?_
        rintro e w6 ⟨rfl, hD6, hB6⟩
        have HD6 : Hid (Bld w6 B B (pb n ++ pb l.length ++ (l.take (k + 1)).flatMap pb)) := Lib.hid (by rw [HT.out, List.flatMap_append]; simpa using hD6)
        have HB6 := Lib.hid (HBr.out.trans hB6)
        clear hD6 hB6
        go_wp2_with fail
        go_roundw
        case rel => exact ⟨k + 1, by omega, by go_num, HD6.out, HB6.out⟩
        case measure => simp [intOf]; omega
      · have hkl : k = l.length := by omega
        subst hkl
        rw [List.take_of_length_le (Nat.le_refl _)] at HDr hfl
        have hmb : (manL n l).length ≤ 192 := by
          unfold manL
          rw [List.length_append, List.length_append]
          omega
        have hm0 : 0 < (manL n l).length := by
          have := (pb_len (n := n) (by omega)).1
          unfold manL
          rw [List.length_append, List.length_append]
          omega
        have d0 : decide ((l.length : Int) < (l.length : Int)) = false := by simp
        have HDm : Hid (Bld wr B B (manL n l)) := HDr
        have hf := fun W => framePut_any W (Bl (manL n l)) hm0 (by rw [Bl_size]; omega)
        rw [Lb_Bl] at hf
        have HF := Lib.hid hf
        obtain ⟨f, hff⟩ : ∃ f, f = Bl (frmL crcU (manL n l)) := ⟨_, rfl⟩
        have hfs : f.size ≤ 1000 := by
          rw [hff, Bl_size]
          unfold frmL
          rw [List.length_append, List.length_append, fixL_len, fixL_len]
          omega
        have hsv : d.save n l = d.wr sFile f := by unfold Dk.save; rw [if_pos HR.out, hff]
        rw [← hff] at HF
        have HSV := Lib.hid hsv
        clear hf hff hsv hfl htl hp6 hp7
        go_wp2_with fail
        refine (bld_string HDm.out hsr).mono ?_
        rintro e w6 ⟨rfl, _, hB6⟩
        have HB6 := Lib.hid (HBr.out.trans hB6)
        clear hB6
        go_wp2_with fail
        refine (HF.out _).mono ?_
        rintro e w7 ⟨rfl, hB7⟩
        have hs6 : B ≤ w6.heap.size := by have := HB6.out.size; have := HBB.out; omega
        have HB7 := Lib.hid (HB6.out.trans (hB7.mono hs6))
        have HQ7 := Lib.hid (H2.out.fresh (w' := w7) (by rw [HBB.out]; exact HB7.out))
        have HK7 : Hid (Kx X w w7) := Lib.hid ((Kx.of_below (hb ▸ HB2.out)).trans (Kx.of_below (by rw [HBB.out]; exact HB7.out)))
        clear hB7
        go_wp2_with fail
        refine (writeQ HQ7.out ⟨#[109, 97, 110, 105, 102, 101, 115, 116]⟩ f (by decide) (by omega)).mono ?_
        rintro e w8 ⟨rfl, hQ8, hk8⟩
        have HQ8 := Lib.hid hQ8
        have HK8 := Lib.hid (HK7.out.trans hk8)
        obtain ⟨er, her⟩ : ∃ er, (d.wr ⟨#[109, 97, 110, 105, 102, 101, 115, 116]⟩ f).1 = er := ⟨_, rfl⟩
        rw [her]
        have HER := Lib.hid her
        clear hQ8 hk8 her
        go_wp2_with fail
        go_ret
        rw [HSV.out, show sFile = ⟨#[109, 97, 110, 105, 102, 101, 115, 116]⟩ from rfl, HER.out]
        exact ⟨rfl, HQ8.out, HK8.out⟩
end Go.Proofs.YthdehdlbocgfaaaDoor
