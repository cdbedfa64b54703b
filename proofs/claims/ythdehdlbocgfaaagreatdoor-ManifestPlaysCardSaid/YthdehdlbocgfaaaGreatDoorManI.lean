/- ManifestTells: what Raise makes of any two files, in plain words. Under the stated premises. -/
import Derived.Test.YthdehdlbocgfaaaGreatDoorManC
import Derived.Test.YthdehdlbocgfaaaGreatDoorBldA
import Derived.Test.YthdehdlbocgfaaaGreatDoorManD
import Derived.Test.YthdehdlbocgfaaaGreatDoorBlT
import Derived.Deep.RegionHeld3
import Derived.Test.YthdehdlbocgfaaaGreatDoorManE
/- The manifest: Right, Save. Under the stated premises on sizes. -/
namespace Go.Proofs.YthdehdlbocgfaaaGreatDoor
open Go.RowKit Go.Bl
attribute [local go_sem ↓] Go.wp_at_zero Go.wp_at_succ

/-- Do numbers rise, from a on? -/
def risB : Int → List Int → Bool
  | _, [] => true
  | a, x :: l => decide (a < x) && risB x l
def lastI : Int → List Int → Int
  | a, [] => a
  | _, x :: l => lastI x l
def rightB (n : Int) (l : List Int) : Bool := risB 0 l && decide (lastI 0 l < n) && decide (n ≤ 1073741824) && decide (l.length ≤ 30)
theorem risB_snoc : ∀ (a : Int) (l : List Int) (x : Int), risB a (l ++ [x]) = (risB a l && decide (lastI a l < x))
  | a, [], x => by
    show (decide (a < x) && true) = (true && decide (a < x))
    rw [Bool.and_true, Bool.true_and]
  | a, y :: l, x => by
    show (decide (a < y) && risB y (l ++ [x])) = ((decide (a < y) && risB y l) && decide (lastI y l < x))
    rw [risB_snoc y l x, Bool.and_assoc]
theorem lastI_snoc : ∀ (a : Int) (l : List Int) (x : Int), lastI a (l ++ [x]) = x
  | _, [], _ => rfl
  | _, y :: l, x => lastI_snoc y l x
theorem risB_take : ∀ (a : Int) (l : List Int) (k : Nat), risB a (l.take k) = false → risB a l = false
  | _, [], k, h => by simpa using h
  | _, y :: l, 0, h => by simp [risB] at h
  | a, y :: l, k + 1, h => by
    rw [List.take_succ_cons] at h
    simp only [risB, Bool.and_eq_false_iff] at h ⊢
    exact h.imp id (risB_take y l k)
set_option maxRecDepth 8000 in
set_option maxHeartbeats 2000000 in
theorem right_any (w : World) (n : Int) (v : Value) (l : List Int) (G : Nat → Prop) (h : Sl w G 1 intc v l) :
    Calls Tryz.prog 15 #[.agg #[.int .i64 n, v]] w fun e w' => e = .returned (.bool (rightB n l)) ∧ Below w.heap.size w w' := by
  obtain ⟨A, c, rfl, hA1, hA2⟩ := h.shape
  unfold maxLen at hA2
  have hB0 : Below w.heap.size w (w.alloc (.cells #[.int .i64 n, .slice A l.length c] 37)) := (Below.refl _ w).alloc (Nat.le_refl _) _
  have hblk := heap_alloc_new w (.cells #[.int .i64 n, .slice A l.length c] 37)
  have H := Lib.hid (h.fresh hB0)
  have HB := Lib.hid hB0
  have HBK := Lib.hid hblk
  clear h hB0 hblk
  go_enter Tryz.func15, Tryz.ntmps15
  go_upto_region 1 with (fail)
  obtain ⟨b, hb⟩ : ∃ b, w.heap.size = b := ⟨_, rfl⟩
  rw [hb] at HB HBK ⊢
  generalize w.alloc (.cells #[.int .i64 n, .slice A l.length c] 37) = w1 at H HB HBK ⊢
  have c0 : w1.cell? ⟨b, 0, none⟩ = some (.int .i64 n) := cell_of_row w1 b 0 _ _ _ HBK.out
  have c1 : w1.cell? ⟨b, 1, none⟩ = some (.slice A l.length c) := cell_of_row w1 b 1 _ _ _ HBK.out
  go_wp2_with fail
  go_loop [3, 9] (fun a i => ∃ (k : Nat), k ≤ l.length ∧ a = .int .i64 (lastI 0 (l.take k)) ∧ i = .int .i64 k ∧ Hid (risB 0 (l.take k) = true)) (fun _ i => l.length - (intOf i).toNat)
  case atStart => exact ⟨0, Nat.zero_le _, rfl, rfl, Lib.hid rfl⟩
  case round =>
    obtain ⟨k, hk, rfl, rfl, hr⟩ := hrel
    by_cases hlt : k < l.length
    · have d0 : decide ((k : Int) < (l.length : Int)) = true := by simp; omega
      obtain ⟨q, o, rfl, _, _, hxx⟩ := H.out.cell_ hlt
      have x0 := hxx 0 _ rfl
      rw [Nat.mul_one, Nat.add_zero] at x0
      have ht := List.take_succ_eq_append_getElem hlt
      have hs1 := risB_snoc 0 (l.take k) l[k]
      have hs2 := lastI_snoc 0 (l.take k) l[k]
      rw [← ht] at hs1 hs2
      rw [hr.out, Bool.true_and] at hs1
      obtain ⟨x, hx⟩ : ∃ x, x = l[k] := ⟨_, rfl⟩
      rw [← hx] at x0 hs1 hs2
      obtain ⟨a, ha⟩ : ∃ a, a = lastI 0 (l.take k) := ⟨_, rfl⟩
      rw [← ha] at hs1 ⊢
      have HS1 := Lib.hid hs1
      have HS2 := Lib.hid hs2
      clear hxx ht hs1 hs2 hx ha
      by_cases hxa : a < x
      · have d1 : decide (x ≤ a) = false := by simp; omega
        go_wp2_with fail
        go_round
        case rel => exact ⟨k + 1, by omega, by rw [HS2.out], by go_num, Lib.hid (by rw [HS1.out]; simpa using hxa)⟩
        case measure => simp [intOf]; omega
      · have d1 : decide (x ≤ a) = true := by simp; omega
        go_wp2_with fail
        go_ret
        have hf : risB 0 l = false := risB_take 0 l (k + 1) (by rw [HS1.out]; simpa using hxa)
        have : rightB n l = false := by unfold rightB; rw [hf]; rfl
        rw [this]
        exact ⟨rfl, hb ▸ HB.out⟩
    · have hkl : k = l.length := by omega
      subst hkl
      have h2 := hr.out
      rw [List.take_of_length_le (Nat.le_refl _)] at h2 ⊢
      have hR : Hid (rightB n l = (decide (lastI 0 l < n) && decide (n ≤ 1073741824) && decide (l.length ≤ 30))) := Lib.hid (by unfold rightB; rw [h2, Bool.true_and])
      clear h2
      obtain ⟨a, ha⟩ : ∃ a, a = lastI 0 l := ⟨_, rfl⟩
      rw [← ha] at hR ⊢
      clear ha
      have d0 : decide ((l.length : Int) < (l.length : Int)) = false := by simp
      by_cases t1 : a < n
      · by_cases t2 : n ≤ 1073741824
        · have t2' : decide (n ≤ 1073741824) = true := by simpa using t2
          by_cases t3 : l.length ≤ 30
          · have t3' : decide ((l.length : Int) ≤ 30) = true := by simp; omega
            have hv : rightB n l = true := by rw [hR.out, decide_eq_true t1, t2', decide_eq_true t3]; rfl
            go_wp2_with fail
            go_ret
            exact ⟨rfl, hb ▸ HB.out⟩
          · have t3' : decide ((l.length : Int) ≤ 30) = false := by simp; omega
            have hv : rightB n l = false := by rw [hR.out, decide_eq_false t3, Bool.and_false]
            go_wp2_with fail
            go_ret
            exact ⟨rfl, hb ▸ HB.out⟩
        · have t2' : decide (n ≤ 1073741824) = false := by simpa using t2
          have hv : rightB n l = false := by rw [hR.out, t2', Bool.and_false, Bool.false_and]
          go_wp2_with fail
          go_ret
          exact ⟨rfl, hb ▸ HB.out⟩
      · have hv : rightB n l = false := by rw [hR.out, decide_eq_false t1, Bool.false_and, Bool.false_and]
        go_wp2_with fail
        go_ret
        exact ⟨rfl, hb ▸ HB.out⟩
/-- The bytes of a number. -/
def pb (n : Int) : List UInt8 := bytesOf (putL n.toNat)
theorem pb_len {n : Int} (h : n ≤ 1099511627776) : 0 < (pb n).length ∧ (pb n).length ≤ 6 := by
  unfold pb bytesOf
  rw [List.length_map]
  exact ⟨putL_pos _, putL_len 5 n.toNat (by omega)⟩
def manL (n : Int) (l : List Int) : List UInt8 := pb n ++ pb l.length ++ l.flatMap pb
theorem flat_len : ∀ (l : List Int), (∀ x ∈ l, x ≤ 1099511627776) → (l.flatMap pb).length ≤ 6 * l.length
  | [], _ => by simp
  | x :: l, h => by
    have := flat_len l (fun y hy => h y (List.mem_cons_of_mem _ hy))
    have := (pb_len (h x (List.mem_cons_self ..))).2
    rw [List.flatMap_cons, List.length_append, List.length_cons]
    omega
theorem risB_bd : ∀ (a : Int) (l : List Int), risB a l = true → ∀ x ∈ l, a < x ∧ x ≤ lastI a l
  | _, [], _, x, hx => by cases hx
  | a, y :: l, h, x, hx => by
    simp only [risB, Bool.and_eq_true, decide_eq_true_eq] at h
    have hy : y ≤ lastI y l := by
      cases l with
      | nil => exact Int.le_refl _
      | cons z l =>
        have := risB_bd y (z :: l) h.2 z (List.mem_cons_self ..)
        omega
    rcases List.mem_cons.1 hx with rfl | hx
    · exact ⟨h.1, hy⟩
    · have := risB_bd y l h.2 x hx
      exact ⟨by omega, this.2⟩
theorem rightB_bd {n : Int} {l : List Int} (h : rightB n l = true) : 1 ≤ n ∧ n ≤ 1073741824 ∧ l.length ≤ 30 ∧ ∀ x ∈ l, 0 < x ∧ x < n := by
  simp only [rightB, Bool.and_eq_true, decide_eq_true_eq] at h
  obtain ⟨⟨⟨h1, h2⟩, h3⟩, h4⟩ := h
  have h5 : ∀ x ∈ l, 0 < x ∧ x < n := fun x hx => by
    have := risB_bd 0 l h1 x hx
    omega
  refine ⟨?_, h3, h4, h5⟩
  cases l with
  | nil => have : lastI 0 [] = 0 := rfl; omega
  | cons x l => have := h5 x (List.mem_cons_self ..); omega
theorem save1_any (w : World) (B b : Nat) (l : List UInt8) (n : Int) (h : Bld w B b l) (hn0 : 0 ≤ n) (hn : n ≤ 1099511627776) (hl : l.length ≤ 1000000) (hB : B ≤ w.heap.size) :
    Calls Tryz.prog 48 #[.int .i64 n, .pointer (some ⟨b, 0, none⟩)] w fun e w' => e = .returned (.tuple #[]) ∧ Bld w' B b (l ++ pb n) ∧ Below B w w' := by
  have hp := put_any w n n.toNat (by unfold holdI gmax gmin; omega)
  have HP := Lib.hid hp
  have H := Lib.hid h
  have h6 := (pb_len hn).2
  have hs : (putB n.toNat).size ≤ 6 := h6
  clear hp h h6
  go_enter Tryz.func48, Tryz.ntmps48
  go_wp2_with fail
  refine HP.out.mono ?_
  rintro e w1 ⟨rfl, hB1⟩
  have H1 := Lib.hid (H.out.fresh hB1)
  have HB1 := Lib.hid (hB1.mono hB)
  have hB1s := hB1.size
  clear hB1
  go_wp2_with fail
  refine (bld_write H1.out (putB n.toNat) (by omega) (by omega)).mono ?_
  rintro e w2 ⟨rfl, h2, hB2⟩
  have H2 := Lib.hid h2
  have HB2 := Lib.hid (HB1.out.trans hB2)
  clear h2 hB2
  go_wp2_with fail
  go_end0
  exact ⟨rfl, H2.out, HB2.out⟩
def Dk.save (d : Dk) (n : Int) (l : List Int) : Int × Dk := if rightB n l = true then d.wr sFile (Bl (frmL crcU (manL n l))) else (1, d)
set_option maxRecDepth 8000 in
set_option maxHeartbeats 2000000 in
theorem saveQ {X : Nat → Prop} {w : World} {p : Nat} {d : Dk} (h : Qd X w p d) (n : Int) (v : Value) (l : List Int) (G : Nat → Prop) (hs : Sl w G 1 intc v l) :
    Calls Tryz.prog 20 #[.pointer (some ⟨p, 0, none⟩), .agg #[.int .i64 n, v]] w fun e w' => e = .returned (.int .i64 (d.save n l).1) ∧ Qd X w' p (d.save n l).2 ∧ Kx X w w' := by
  obtain ⟨A, c, rfl, hA1, hA2⟩ := hs.shape
  unfold maxLen at hA2
  have hB0 : Below w.heap.size w (w.alloc (.cells #[.int .i64 n, .slice A l.length c] 37)) := (Below.refl _ w).alloc (Nat.le_refl _) _
  have hblk := heap_alloc_new w (.cells #[.int .i64 n, .slice A l.length c] 37)
  have HS := Lib.hid (hs.fresh hB0)
  have HB := Lib.hid hB0
  have HBK := Lib.hid hblk
  have H := Lib.hid (h.fresh hB0)
  clear h hs hB0 hblk
  go_enter Tryz.func20, Tryz.ntmps20
  go_upto_region 1 with (fail)
  obtain ⟨b, hb⟩ : ∃ b, w.heap.size = b := ⟨_, rfl⟩
  rw [hb] at HB HBK ⊢
  generalize w.alloc (.cells #[.int .i64 n, .slice A l.length c] 37) = w1 at H HS HB HBK ⊢
  have c0 : w1.cell? ⟨b, 0, none⟩ = some (.int .i64 n) := cell_of_row w1 b 0 _ _ _ HBK.out
  have c1 : w1.cell? ⟨b, 1, none⟩ = some (.slice A l.length c) := cell_of_row w1 b 1 _ _ _ HBK.out
  go_wp2_with fail
  refine (right_any w1 n _ l G HS.out).mono ?_
  rintro e w2 ⟨rfl, hB2⟩
  have HB2 := Lib.hid (HB.out.trans (hB2.mono (hb ▸ HB.out.size)))
  have H2 := Lib.hid (H.out.fresh hB2)
  have HS2 := Lib.hid (HS.out.fresh hB2)
  have hbl := (Array.getElem?_eq_some_iff.1 HBK.out).1
  have HBK2 := Lib.hid ((hB2.block b hbl).trans HBK.out)
  clear hB2 c0 c1
  cases hR : rightB n l with
  | false =>
    go_wp2_with fail
    go_ret
    have e1 : d.save n l = (1, d) := by unfold Dk.save; rw [if_neg (by rw [hR]; decide)]
    rw [e1]
    exact ⟨rfl, H2.out, Kx.of_below (hb ▸ HB2.out)⟩
  | true =>
    obtain ⟨hn1, hn2, hl30, hx⟩ := rightB_bd hR
    have HR := Lib.hid hR
    have HX := Lib.hid hx
    clear hR hx
    go_upto_region 4 with (fail)
    have hbd := bld_new w2
    have hB3 : Below w2.heap.size w2 (w2.alloc (.cells #[.pointer none, .slice none 0 0] 88)) := (Below.refl _ w2).alloc (Nat.le_refl _) _
    obtain ⟨B, hBB⟩ : ∃ B, w2.heap.size = B := ⟨_, rfl⟩
    have hbB : b < B := by
      have := (Array.getElem?_eq_some_iff.1 HBK2.out).1
      omega
    rw [hBB] at hbd hB3 ⊢
    generalize w2.alloc (.cells #[.pointer none, .slice none 0 0] 88) = w3 at hbd hB3 ⊢
    have HBD := Lib.hid hbd
    have HB3 := Lib.hid hB3
    have HBB := Lib.hid hBB
    clear hbd hB3 hBB
    have c0 : w3.cell? ⟨b, 0, none⟩ = some (.int .i64 n) := (HB3.out.cell (p := ⟨b, 0, none⟩) hbB).trans (cell_of_row w2 b 0 _ _ _ HBK2.out)
    go_wp2_with fail
    have hs3 : B ≤ w3.heap.size := by have := HB3.out.size; have := HBB.out; omega
    refine (save1_any w3 B B [] n HBD.out (by omega) (by omega) (by decide) hs3).mono ?_
    rintro e w4 ⟨rfl, hD4, hB4⟩
    have HD4 := Lib.hid hD4
    have HB4 := Lib.hid (HB3.out.trans hB4)
    have hs4 : B ≤ w4.heap.size := Nat.le_trans hs3 hB4.size
    clear hD4 hB4 c0
    have c1 : w4.cell? ⟨b, 1, none⟩ = some (.slice A l.length c) := (HB4.out.cell (p := ⟨b, 1, none⟩) hbB).trans (cell_of_row w2 b 1 _ _ _ HBK2.out)
    have hp6 := (pb_len (n := n) (by omega)).2
    go_wp2_with fail
    refine (save1_any w4 B B _ (l.length : Int) HD4.out (by omega) (by omega) (by simp; omega) hs4).mono ?_
    rintro e w5 ⟨rfl, hD5, hB5⟩
    have hp7 := (pb_len (n := (l.length : Int)) (by omega)).2
    have HD5 : Hid (Bld w5 B B (pb n ++ pb l.length)) := Lib.hid (by simpa using hD5)
    have HB5 := Lib.hid (HB4.out.trans hB5)
    have hs5 : B ≤ w5.heap.size := Nat.le_trans hs4 hB5.size
    clear hD5 hB5 c1
    have c1 : w5.cell? ⟨b, 1, none⟩ = some (.slice A l.length c) := (HB5.out.cell (p := ⟨b, 1, none⟩) hbB).trans (cell_of_row w2 b 1 _ _ _ HBK2.out)
    go_wp2_with fail
    clear c1
    go_loopw [27] (fun i wr => ∃ k : Nat, k ≤ l.length ∧ i = .int .i64 k ∧ Bld wr B B (pb n ++ pb l.length ++ (l.take k).flatMap pb) ∧ Below B w2 wr) (fun i _ => l.length - (intOf i).toNat)
    case atStart => exact ⟨0, Nat.zero_le _, rfl, by simpa using HD5.out, HB5.out⟩
    case round =>
      obtain ⟨k, hk, rfl, hDr, hBr⟩ := hrel
      have HDr := Lib.hid hDr
      have HBr := Lib.hid hBr
      have hsr : B ≤ wr.heap.size := by have := hBr.size; have := HBB.out; omega
      clear hDr hBr
      have hfl := flat_len (l.take k) (fun x hx => by have := HX.out x (List.mem_of_mem_take hx); omega)
      have htl := List.length_take_le k l
      by_cases hlt : k < l.length
      · have d0 : decide ((k : Int) < (l.length : Int)) = true := by simp; omega
        have hSr := HS2.out.fresh (w' := wr) (by rw [HBB.out]; exact HBr.out)
        obtain ⟨q, o, rfl, _, _, hxx⟩ := hSr.cell_ hlt
        have x0 := hxx 0 _ rfl
        rw [Nat.mul_one, Nat.add_zero] at x0
        have hxl := HX.out l[k] (List.getElem_mem hlt)
        have ht := List.take_succ_eq_append_getElem hlt
        obtain ⟨x, hx⟩ : ∃ x, x = l[k] := ⟨_, rfl⟩
        rw [← hx] at x0 hxl ht
        have HT := Lib.hid ht
        clear hxx hx ht hSr
        go_wp2_with fail
        refine (save1_any wr B B _ x HDr.out (by omega) (by omega) (by rw [List.length_append, List.length_append]; omega) hsr).mono ?_
        rintro e w6 ⟨rfl, hD6, hB6⟩
        have HD6 : Hid (Bld w6 B B (pb n ++ pb l.length ++ (l.take (k + 1)).flatMap pb)) := Lib.hid (by rw [HT.out, List.flatMap_append]; simpa using hD6)
        have HB6 := Lib.hid (HBr.out.trans hB6)
        clear hD6 hB6
        go_wp2_with fail
        go_roundw
        case rel => exact ⟨k + 1, by omega, by go_num, HD6.out, HB6.out⟩
        case measure => simp [intOf]; omega
      · have hkl : k = l.length := by omega
        subst hkl
        rw [List.take_of_length_le (Nat.le_refl _)] at HDr hfl
        have hmb : (manL n l).length ≤ 192 := by
          unfold manL
          rw [List.length_append, List.length_append]
          omega
        have hm0 : 0 < (manL n l).length := by
          have := (pb_len (n := n) (by omega)).1
          unfold manL
          rw [List.length_append, List.length_append]
          omega
        have d0 : decide ((l.length : Int) < (l.length : Int)) = false := by simp
        have HDm : Hid (Bld wr B B (manL n l)) := HDr
        have hf := fun W => framePut_any W (Bl (manL n l)) hm0 (by rw [Bl_size]; omega)
        rw [Lb_Bl] at hf
        have HF := Lib.hid hf
        obtain ⟨f, hff⟩ : ∃ f, f = Bl (frmL crcU (manL n l)) := ⟨_, rfl⟩
        have hfs : f.size ≤ 1000 := by
          rw [hff, Bl_size]
          unfold frmL
          rw [List.length_append, List.length_append, fixL_len, fixL_len]
          omega
        have hsv : d.save n l = d.wr sFile f := by unfold Dk.save; rw [if_pos HR.out, hff]
        rw [← hff] at HF
        have HSV := Lib.hid hsv
        clear hf hff hsv hfl htl hp6 hp7
        go_wp2_with fail
        refine (bld_string HDm.out hsr).mono ?_
        rintro e w6 ⟨rfl, _, hB6⟩
        have HB6 := Lib.hid (HBr.out.trans hB6)
        clear hB6
        go_wp2_with fail
        refine (HF.out _).mono ?_
        rintro e w7 ⟨rfl, hB7⟩
        have hs6 : B ≤ w6.heap.size := by have := HB6.out.size; have := HBB.out; omega
        have HB7 := Lib.hid (HB6.out.trans (hB7.mono hs6))
        have HQ7 := Lib.hid (H2.out.fresh (w' := w7) (by rw [HBB.out]; exact HB7.out))
        have HK7 : Hid (Kx X w w7) := Lib.hid ((Kx.of_below (hb ▸ HB2.out)).trans (Kx.of_below (by rw [HBB.out]; exact HB7.out)))
        clear hB7
        go_wp2_with fail
        refine (writeQ HQ7.out ⟨#[109, 97, 110, 105, 102, 101, 115, 116]⟩ f (by decide) (by omega)).mono ?_
        rintro e w8 ⟨rfl, hQ8, hk8⟩
        have HQ8 := Lib.hid hQ8
        have HK8 := Lib.hid (HK7.out.trans hk8)
        obtain ⟨er, her⟩ : ∃ er, (d.wr ⟨#[109, 97, 110, 105, 102, 101, 115, 116]⟩ f).1 = er := ⟨_, rfl⟩
        rw [her]
        have HER := Lib.hid her
        clear hQ8 hk8 her
        go_wp2_with fail
        go_ret
        rw [HSV.out, show sFile = ⟨#[109, 97, 110, 105, 102, 101, 115, 116]⟩ from rfl, HER.out]
        exact ⟨rfl, HQ8.out, HK8.out⟩
end Go.Proofs.YthdehdlbocgfaaaGreatDoor

/- The manifest: Load. Under the stated premises on sizes. -/
namespace Go.Proofs.YthdehdlbocgfaaaGreatDoor
open Go.RowKit Go.Bl
attribute [local go_sem ↓] Go.wp_at_zero Go.wp_at_succ

theorem infoIntM : (Tryz.prog.info? 3).map (fun i => (i.zero, i.size, i.bytes)) = some (some (.int .i64 0), 1, 8) := by kernel_rfl
theorem elIntM : El Tryz.prog 33 3 1 8 intc := ⟨Tryz.underlying33, ⟨_, infoIntM, rfl⟩, by decide, by decide, fun _ => rfl, fun x u h => by simp [intc] at h; subst h; rfl⟩
/-- The first error. -/
def andE (E F : Int) : Int := if E = 0 then F else E
/-- The closure that takes the next number. -/
theorem load1_any (w : World) (bl be : Nat) (L : List UInt8) (E : Int) (h1 : w.heap[bl]? = some (.cells #[.string (Bl L)] 9 (0, 0))) (h2 : w.heap[be]? = some (.cells #[.int .i64 E] 38 (0, 0))) (hL : L.length ≤ 1000000000000) :
    Calls Tryz.prog 38 #[.pointer (some ⟨bl, 0, none⟩), .pointer (some ⟨be, 0, none⟩)] w fun e w' => e = .returned (.int .i64 (tkN L).1) ∧ w'.heap[bl]? = some (.cells #[.string (Bl (tkN L).2.1)] 9 (0, 0)) ∧ w'.heap[be]? = some (.cells #[.int .i64 (andE E (tkN L).2.2)] 38 (0, 0)) ∧ Keeps (fun k => k = bl ∨ k = be) w w' := by
  have hne : bl ≠ be := fun e => by rw [e, h2] at h1; simp at h1
  have hc := fun W => take_any W (Bl L) (by rw [Bl_size]; exact hL)
  rw [Lb_Bl] at hc
  have c0 : w.cell? ⟨bl, 0, none⟩ = some (.string (Bl L)) := cell_of_row w bl 0 _ _ _ h1
  have HC := Lib.hid hc
  have H1 := Lib.hid h1
  have H2 := Lib.hid h2
  clear hc h1 h2
  go_enter Tryz.func38, Tryz.ntmps38
  go_wp2_with fail
  refine (HC.out _).mono ?_
  rintro e w1 ⟨rfl, hB1⟩
  have k1 := (hB1.block bl (Array.getElem?_eq_some_iff.1 H1.out).1).trans H1.out
  have k2 := (hB1.block be (Array.getElem?_eq_some_iff.1 H2.out).1).trans H2.out
  have c0 : w1.cell? ⟨bl, 0, none⟩ = some (.string (Bl L)) := cell_of_row w1 bl 0 _ _ _ k1
  have f0 : w1.frozen? ⟨bl, 0, none⟩ = false := frozen_block k1 0
  have K1 := Lib.hid k1
  have K2 := Lib.hid k2
  have HB1 := Lib.hid hB1
  clear k1 k2 hB1
  go_upto_region 3 with (fail)
  have k3 := setCell_block (o := 0) K1.out (.string (Bl (tkN L).2.1))
  have hk3 := Keeps.one w1 bl 0 (.string (Bl (tkN L).2.1))
  generalize w1.setCell ⟨bl, 0, none⟩ (.string (Bl (tkN L).2.1)) = w2 at k3 hk3 ⊢
  have k4 := hk3.grownTo K2.out (fun e => hne e.symm)
  have c1 : w2.cell? ⟨be, 0, none⟩ = some (.int .i64 E) := cell_of_row w2 be 0 _ _ _ k4
  have f1 : w2.frozen? ⟨be, 0, none⟩ = false := frozen_block k4 0
  have K3 := Lib.hid k3
  have K4 := Lib.hid k4
  have HK3 := Lib.hid (((Keeps.of_fresh HB1.out (fun k => k = bl ∨ k = be)).trans (hk3.mono (fun _ _ e => .inl e))))
  clear k3 k4 hk3 c0 f0
  by_cases e0 : E = 0
  · subst e0
    go_wp2_with fail
    go_ret
    have hk5 := Keeps.one w2 be 0 (.int .i64 (tkN L).2.2)
    have k5 := setCell_block (o := 0) K4.out (.int .i64 (tkN L).2.2)
    have k6 := hk5.grownTo K3.out hne
    rw [show andE 0 (tkN L).2.2 = (tkN L).2.2 from rfl]
    exact ⟨rfl, k6, k5, HK3.out.trans (hk5.mono (fun _ _ e => .inr e))⟩
  · have d0 : (E == 0) = false := by rw [beq_eq_false_iff_ne]; exact e0
    have E0 := Lib.hid e0
    clear e0
    go_wp2_with fail
    go_ret
    rw [show andE E (tkN L).2.2 = E from if_neg E0.out]
    exact ⟨rfl, K3.out, K4.out, HK3.out⟩
theorem tkL_used : ∀ (l : List UInt8) (i n : Nat), (tkL i n l).2.2 = 0 → i < (tkL i n l).2.1
  | [], i, n, h => by unfold tkL at h; simp at h
  | c :: l, i, n, h => by
    unfold tkL at h ⊢
    split
    · rename_i h1; rw [if_pos h1] at h; simp at h
    · rename_i h1
      rw [if_neg h1] at h
      split
      · rename_i h2
        rw [if_pos h2] at h
        have := tkL_used l (i + 1) _ h
        omega
      · rename_i h2
        rw [if_neg h2] at h
        split
        · rename_i h3; rw [if_pos h3] at h; simp at h
        · rename_i h3
          rw [if_neg h3] at h
          split
          · rename_i h4; rw [if_pos h4] at h; simp at h
          · exact Nat.lt_succ_self i
theorem tkN_less {s : List UInt8} (h : (tkN s).2.2 = 0) : (tkN s).2.1.length + 1 ≤ s.length := by
  have h1 : (tkL 0 0 s).2.2 = 0 := h
  have h2 := tkL_used s 0 0 h1
  have h3 := tkL_bd s 0 0 (by omega) (by decide)
  show (if (tkL 0 0 s).2.2 = 0 then s.drop (tkL 0 0 s).2.1 else []).length + 1 ≤ _
  rw [if_pos h1, List.length_drop]
  have := h3.2.1
  omega
theorem tkF_bad {s : List UInt8} (h : (tkF crcU s).2.2 ≠ 0) : (tkF crcU s).1 = [] := by
  unfold tkF at h ⊢
  split
  · rfl
  · rename_i h1
    rw [if_neg h1] at h
    split
    · rfl
    · rename_i h2
      rw [if_neg h2] at h
      split
      · rfl
      · rename_i h3
        rw [if_neg h3] at h
        split
        · rfl
        · rename_i h4
          rw [if_neg h4] at h
          split
          · rfl
          · rename_i h5
            rw [if_neg h5] at h
            simp at h
/-- So many numbers: they, what is behind, the error. -/
def numsF : Nat → List UInt8 → List Int × List UInt8 × Int
  | 0, s => ([], s, 0)
  | m + 1, s => if (tkN s).2.2 = 0 then ((tkN s).1 :: (numsF m (tkN s).2.1).1, (numsF m (tkN s).2.1).2) else ([(tkN s).1], (tkN s).2.1, (tkN s).2.2)
/-- What the loop has still to do. -/
def numsE (E : Int) (m : Nat) (s : List UInt8) : List Int × List UInt8 × Int := if E = 0 then numsF m s else ([], s, E)
/-- A manifest's numbers read off a payload: the number, the segments, whether it is right. -/
def ldP (P R : List UInt8) (E : Int) : Int × List Int × Bool :=
  ((tkN P).1, (numsE (andE (andE E (tkN P).2.2) (tkN (tkN P).2.1).2.2) (tkN (tkN P).2.1).1.toNat (tkN (tkN P).2.1).2.1).1,
    decide ((numsE (andE (andE E (tkN P).2.2) (tkN (tkN P).2.1).2.2) (tkN (tkN P).2.1).1.toNat (tkN (tkN P).2.1).2.1).2.2 = 0) &&
    decide ((numsE (andE (andE E (tkN P).2.2) (tkN (tkN P).2.1).2.2) (tkN (tkN P).2.1).1.toNat (tkN (tkN P).2.1).2.1).2.1 = []) && decide (R = []) &&
    rightB (tkN P).1 (numsE (andE (andE E (tkN P).2.2) (tkN (tkN P).2.1).2.2) (tkN (tkN P).2.1).1.toNat (tkN (tkN P).2.1).2.1).1)
def ldF (s : List UInt8) : Int × List Int × Bool := ldP (tkF crcU s).1 (tkF crcU s).2.1 (tkF crcU s).2.2
theorem ownNe {α : Type} {w : World} {base : Nat} {e T : TypeId} {size : Nat} {enc : α → List Value} {v : Value} {l : List α} {b : Nat} {cs : Array Value} {fr : Nat × Nat} (h : Go.Bl.Own w base e size enc v l) (hb : w.heap[b]? = some (.cells cs T fr)) (hT : T ≠ e) : v.ownBlock ≠ some b := by
  intro hv
  rcases h.2 with ⟨rfl, _⟩ | ⟨g, cap, cur, rfl, _, hg, _⟩
  · simp [Value.ownBlock] at hv
  · simp [Value.ownBlock] at hv
    subst hv
    rw [hg] at hb
    simp at hb
    exact hT hb.2.1.symm
/-- Amid Load: its result's cell, the boxes of what is left and of the first error. -/
structure Ld (w0 w : World) (b0 be bl : Nat) (L : List UInt8) (E : Int) : Prop where
  past : Below w0.heap.size w0 w
  res : w.heap[b0]? = some (.cells #[.int .i64 0, .slice none 0 0] 37 (0, 0))
  left : w.heap[bl]? = some (.cells #[.string (Bl L)] 9 (0, 0))
  err : w.heap[be]? = some (.cells #[.int .i64 E] 38 (0, 0))
  g0 : w0.heap.size ≤ b0
  g1 : w0.heap.size ≤ be
  g2 : w0.heap.size ≤ bl
section
variable {w0 w w' : World} {b0 be bl : Nat} {L : List UInt8} {E : Int}
theorem Ld.lt0 (h : Ld w0 w b0 be bl L E) : b0 < w.heap.size := (Array.getElem?_eq_some_iff.1 h.res).1
theorem Ld.lt1 (h : Ld w0 w b0 be bl L E) : be < w.heap.size := (Array.getElem?_eq_some_iff.1 h.err).1
theorem Ld.lt2 (h : Ld w0 w b0 be bl L E) : bl < w.heap.size := (Array.getElem?_eq_some_iff.1 h.left).1
theorem Ld.ne01 (h : Ld w0 w b0 be bl L E) : b0 ≠ be := fun e => by have := h.res; rw [e, h.err] at this; simp at this
theorem Ld.ne02 (h : Ld w0 w b0 be bl L E) : b0 ≠ bl := fun e => by have := h.res; rw [e, h.left] at this; simp at this
theorem Ld.fresh (h : Ld w0 w b0 be bl L E) (hB : Below w.heap.size w w') : Ld w0 w' b0 be bl L E :=
  ⟨h.past.trans (hB.mono h.past.size), (hB.block _ h.lt0).trans h.res, (hB.block _ h.lt2).trans h.left, (hB.block _ h.lt1).trans h.err, h.g0, h.g1, h.g2⟩
theorem Ld.other {G : Nat → Prop} (h : Ld w0 w b0 be bl L E) (hk : Keeps G w w') (hG : ∀ k, G k → w0.heap.size ≤ k ∧ k ≠ b0 ∧ k ≠ be ∧ k ≠ bl) : Ld w0 w' b0 be bl L E :=
  ⟨h.past.trans (hk.below h.past.size (fun k hk => (hG k hk).1)), hk.grownTo h.res (fun e => (hG _ e).2.1 rfl), hk.grownTo h.left (fun e => (hG _ e).2.2.2 rfl), hk.grownTo h.err (fun e => (hG _ e).2.2.1 rfl), h.g0, h.g1, h.g2⟩
theorem Ld.take (h : Ld w0 w b0 be bl L E) (hL : L.length ≤ 1000000000000) : Calls Tryz.prog 38 #[.pointer (some ⟨bl, 0, none⟩), .pointer (some ⟨be, 0, none⟩)] w fun e w' => e = .returned (.int .i64 (tkN L).1) ∧ Ld w0 w' b0 be bl (tkN L).2.1 (andE E (tkN L).2.2) ∧ Keeps (fun k => k = bl ∨ k = be) w w' := by
  refine (load1_any w bl be L E h.left h.err hL).mono ?_
  rintro e w' ⟨rfl, h1, h2, hk⟩
  exact ⟨rfl, ⟨h.past.trans (hk.below h.past.size (fun k e => by rcases e with rfl | rfl; exact h.g2; exact h.g1)), hk.grownTo h.res (fun e => e.elim h.ne02 h.ne01), h1, h2, h.g0, h.g1, h.g2⟩, hk⟩
end
/-- What Load tells. -/
def LdPost (D : Int × List Int × Bool) (w : World) (e : Ending) (w' : World) : Prop :=
  (if D.2.2 = true then ∃ v, e = .returned (.tuple #[.agg #[.int .i64 D.1, v], .int .i64 0]) ∧ Sl w' (fun k => w.heap.size ≤ k) 1 intc v D.2.1
    else e = .returned (.tuple #[.agg #[.int .i64 0, .slice none 0 0], .int .i64 2])) ∧ Below w.heap.size w w'
set_option maxRecDepth 8000 in
set_option maxHeartbeats 4000000 in
theorem loadSome {X : Nat → Prop} {w : World} {p : Nat} {d : Dk} (h : Qd X w p d) (f : Fl) (hf : d.find sFile = some f) : Calls Tryz.prog 10 #[.pointer (some ⟨p, 0, none⟩)] w (LdPost (ldF (Lb f.bytes)) w) := by
  have hr : readV (d.find ⟨#[109, 97, 110, 105, 102, 101, 115, 116]⟩) = .tuple #[.string f.bytes, .int .i64 0] := by rw [show (⟨#[109, 97, 110, 105, 102, 101, 115, 116]⟩ : ByteArray) = sFile from rfl, hf]; rfl
  have hsz : f.bytes.size ≤ 1073741824 := by
    have h1 := total_mem (find_some hf).1
    have h2 := h.ok.used
    have h3 := h.ok.room2
    omega
  have hft := fun W => frameTake_any W f.bytes (by omega)
  have hpl : (tkF crcU (Lb f.bytes)).1.length ≤ 8000 := by
    by_cases e : (tkF crcU (Lb f.bytes)).2.2 = 0
    · exact (tkF_len crcU (tkF_eta crcU e)).2.2
    · rw [tkF_bad e]; decide
  obtain ⟨P, hP⟩ : ∃ P, P = (tkF crcU (Lb f.bytes)).1 := ⟨_, rfl⟩
  obtain ⟨R, hR⟩ : ∃ P, P = (tkF crcU (Lb f.bytes)).2.1 := ⟨_, rfl⟩
  obtain ⟨E, hE⟩ : ∃ P, P = (tkF crcU (Lb f.bytes)).2.2 := ⟨_, rfl⟩
  have HL0 : Hid (ldF (Lb f.bytes) = ldP P R E) := Lib.hid (by unfold ldF; rw [← hP, ← hR, ← hE])
  rw [← hP, ← hR, ← hE] at hft
  rw [← hP] at hpl
  obtain ⟨D, hD⟩ : ∃ D, D = ldF (Lb f.bytes) := ⟨_, rfl⟩
  rw [← hD] at HL0 ⊢
  have HFT := Lib.hid hft
  have HR := Lib.hid hr
  have H := Lib.hid h
  have hB0 : Below w.heap.size w (w.alloc (.cells #[.int .i64 0, .slice none 0 0] 37)) := (Below.refl _ w).alloc (Nat.le_refl _) _
  have hblk := heap_alloc_new w (.cells #[.int .i64 0, .slice none 0 0] 37)
  have HB0 := Lib.hid hB0
  have HBK := Lib.hid hblk
  clear hft hP hR hE hr h hf hB0 hblk hD
  go_enter Tryz.func10, Tryz.ntmps10
  go_upto_region 1 with (fail)
  obtain ⟨b0, hb0⟩ : ∃ b, w.heap.size = b := ⟨_, rfl⟩
  have hQ1 := H.out.fresh HB0.out
  rw [hb0] at HB0 HBK ⊢
  generalize w.alloc (.cells #[.int .i64 0, .slice none 0 0] 37) = w1 at HB0 HBK hQ1 ⊢
  go_wp2_with fail
  refine (readQ hQ1 ⟨#[109, 97, 110, 105, 102, 101, 115, 116]⟩ (by decide)).mono ?_
  rintro e w1' ⟨rfl, rfl⟩
  rw [HR.out]
  go_upto_region 4 with (fail)
  have hB1 : Below b0 w (w1.alloc (.cells #[.int .i64 0] 38)) := HB0.out.alloc (by have := HB0.out.size; omega) _
  have hE1 := heap_alloc_new w1 (.cells #[.int .i64 0] 38)
  have hb0l := (Array.getElem?_eq_some_iff.1 HBK.out).1
  have hR1 : (w1.alloc (.cells #[.int .i64 0] 38)).heap[b0]? = _ := (Below.heap_alloc w1 _ b0 hb0l).trans HBK.out
  obtain ⟨be, hbe⟩ : ∃ b, w1.heap.size = b := ⟨_, rfl⟩
  rw [hbe] at hE1 hb0l ⊢
  generalize w1.alloc (.cells #[.int .i64 0] 38) = w2 at hB1 hE1 hR1 ⊢
  have HE1 := Lib.hid hE1
  have HR1 := Lib.hid hR1
  have HB1 := Lib.hid hB1
  have hgb : b0 ≤ w2.heap.size := by have := hB1.size; omega
  have hbel := (Array.getElem?_eq_some_iff.1 hE1).1
  clear hQ1 hE1 hR1 hB1 hbe HB0 HBK
  go_wp2_with fail
  refine (HFT.out _).mono ?_
  rintro e w3 ⟨rfl, hB3⟩
  have hE3 := (hB3.block be hbel).trans HE1.out
  have hR3 := (hB3.block b0 (Nat.lt_trans hb0l hbel)).trans HR1.out
  have hB13 := HB1.out.trans (hB3.mono hgb)
  have hgb3 := hB3.size
  have k0 := heap_alloc_new w3 (.cells #[.string (Bl P)] 9)
  have k1 : (w3.alloc (.cells #[.string (Bl P)] 9)).heap[be]? = _ := (Below.heap_alloc w3 _ be (Array.getElem?_eq_some_iff.1 hE3).1).trans hE3
  have k2 : (w3.alloc (.cells #[.string (Bl P)] 9)).heap[b0]? = _ := (Below.heap_alloc w3 _ b0 (Array.getElem?_eq_some_iff.1 hR3).1).trans hR3
  have k3 : Below b0 w (w3.alloc (.cells #[.string (Bl P)] 9)) := hB13.alloc (by omega) _
  have K0 := Lib.hid k0
  have K1 := Lib.hid k1
  have K2 := Lib.hid k2
  have K3 := Lib.hid k3
  have c0 : (w3.alloc (.cells #[.string (Bl P)] 9)).cell? ⟨be, 0, none⟩ = some (.int .i64 0) := cell_of_row _ be 0 _ _ _ k1
  have f0 : (w3.alloc (.cells #[.string (Bl P)] 9)).frozen? ⟨be, 0, none⟩ = false := frozen_block k1 0
  clear hB3 hE3 hR3 hB13 k0 k1 k2 k3
  go_upto_region 5 with (fail)
  have q1 := setCell_block (o := 0) K1.out (.int .i64 E)
  have qk := Keeps.one (w3.alloc (.cells #[.string (Bl P)] 9)) be 0 (.int .i64 E)
  have hld : Ld w ((w3.alloc (.cells #[.string (Bl P)] 9)).setCell ⟨be, 0, none⟩ (.int .i64 E)) b0 be w3.heap.size P E :=
    ⟨by rw [hb0]; exact K3.out.setCell (p := ⟨be, 0, none⟩) (Nat.le_of_lt hb0l) _, qk.grownTo K2.out (fun e => by omega), qk.grownTo K0.out (fun e => by omega), q1, Nat.le_of_eq hb0, by omega, by omega⟩
  generalize (w3.alloc (.cells #[.string (Bl P)] 9)).setCell ⟨be, 0, none⟩ (.int .i64 E) = w4 at hld ⊢
  obtain ⟨bl, hbl⟩ : ∃ b, w3.heap.size = b := ⟨_, rfl⟩
  rw [hbl] at hld ⊢
  have HLD := Lib.hid hld
  clear q1 qk hld K0 K1 K2 K3 c0 f0 HE1 HR1 HB1 hbel hgb hgb3 hbl hb0l HFT HR hb0
  go_wp2_with fail
  refine (HLD.out.take (by omega)).mono ?_
  rintro e w5 ⟨rfl, h5, _⟩
  have H5 := Lib.hid h5
  have hl5 := (tkN_bd P).2.2.2.2
  have hn5 := tkN_bd P
  have hn6 := tkN_bd (tkN P).2.1
  clear h5 HLD
  obtain ⟨n, hn⟩ : ∃ n, n = (tkN P).1 := ⟨_, rfl⟩
  obtain ⟨L1, hL1⟩ : ∃ n, n = (tkN P).2.1 := ⟨_, rfl⟩
  obtain ⟨E1, hE1⟩ : ∃ n, n = andE E (tkN P).2.2 := ⟨_, rfl⟩
  have HD1 : Hid (D = (n, (numsE (andE E1 (tkN L1).2.2) (tkN L1).1.toNat (tkN L1).2.1).1, decide ((numsE (andE E1 (tkN L1).2.2) (tkN L1).1.toNat (tkN L1).2.1).2.2 = 0) && decide ((numsE (andE E1 (tkN L1).2.2) (tkN L1).1.toNat (tkN L1).2.1).2.1 = []) && decide (R = []) && rightB n (numsE (andE E1 (tkN L1).2.2) (tkN L1).1.toNat (tkN L1).2.1).1)) := Lib.hid (by rw [HL0.out, hE1, hL1, hn]; rfl)
  rw [← hL1, ← hE1] at H5
  rw [← hn, ← hL1] at hn5
  rw [← hL1] at hl5 hn6
  rw [← hn]
  clear hn hL1 hE1 HL0
  go_upto_region 7 with (fail)
  have h6 := H5.out.fresh ((Below.refl _ w5).alloc (Nat.le_refl _) (.cells #[.int .i64 n, .slice none 0 0] 37))
  have hm6 := heap_alloc_new w5 (.cells #[.int .i64 n, .slice none 0 0] 37)
  have hbm : w.heap.size ≤ w5.heap.size ∧ w5.heap.size ≠ b0 ∧ w5.heap.size ≠ be ∧ w5.heap.size ≠ bl := ⟨H5.out.past.size, Nat.ne_of_gt H5.out.lt0, Nat.ne_of_gt H5.out.lt1, Nat.ne_of_gt H5.out.lt2⟩
  generalize w5.alloc (.cells #[.int .i64 n, .slice none 0 0] 37) = w6 at h6 hm6 ⊢
  obtain ⟨bm, hbmm⟩ : ∃ b, w5.heap.size = b := ⟨_, rfl⟩
  rw [hbmm] at hm6 hbm ⊢
  have H6 := Lib.hid h6
  have HM6 := Lib.hid hm6
  obtain ⟨hbm0, hbm1, hbm2, hbm3⟩ := hbm
  clear h6 hm6 hbmm H5
  go_wp2_with fail
  refine (H6.out.take (by omega)).mono ?_
  rintro e w7 ⟨rfl, h7, hk7⟩
  have H7 := Lib.hid h7
  have HM7 := Lib.hid (hk7.grownTo HM6.out (fun e => by omega))
  clear h7 hk7 H6 HM6
  obtain ⟨m, hm⟩ : ∃ n, n = (tkN L1).1 := ⟨_, rfl⟩
  obtain ⟨L2, hL2⟩ : ∃ n, n = (tkN L1).2.1 := ⟨_, rfl⟩
  obtain ⟨E2, hE2⟩ : ∃ n, n = andE E1 (tkN L1).2.2 := ⟨_, rfl⟩
  have hL28 : L2.length ≤ 8000 := by rw [hL2]; omega
  have hm0 : 0 ≤ m ∧ m ≤ 1099511627776 := by rw [hm]; exact ⟨hn6.1, hn6.2.1⟩
  rw [← hL2, ← hE2] at H7
  rw [← hm, ← hL2, ← hE2] at HD1
  rw [← hm]
  obtain ⟨M, hM⟩ : ∃ M : Nat, m = (M : Int) := ⟨m.toNat, by omega⟩
  subst hM
  rw [show ((M : Int)).toNat = M from rfl] at HD1
  clear hm hL2 hE2 hn6
  go_wp2_with fail
  go_loopw [11] (fun i wr => ∃ (k : Nat) (l : List Int) (L : List UInt8) (F : Int) (v : Value), k ≤ M ∧ l.length = k ∧ i = .int .i64 k ∧ Ld w wr b0 be bl L F ∧ wr.heap[bm]? = some (.cells #[.int .i64 n, v] 37 (0, 0)) ∧ Go.Bl.Own wr w.heap.size 3 1 intc v l ∧ l.length + L.length ≤ 8001 ∧ (F = 0 → l.length + L.length ≤ 8000) ∧ Hid (numsE E2 M L2 = (l ++ (numsE F (M - k) L).1, (numsE F (M - k) L).2))) (fun i _ => M - (intOf i).toNat)
  case atStart => exact ⟨0, [], L2, E2, .slice none 0 0, Nat.zero_le _, rfl, rfl, H7.out, HM7.out, Go.Bl.Own.nil_ _ _ _ _ _, by simp; omega, fun _ => by simp; omega, Lib.hid rfl⟩
  case round =>
    obtain ⟨k, l, L, F, v, hk, hlk, rfl, hLd, hbk, hO, hl1, hl2, hN⟩ := hrel
    have HLd := Lib.hid hLd
    have HBK := Lib.hid hbk
    have HO := Lib.hid hO
    have HLK := Lib.hid hlk
    have HL2 := Lib.hid hl2
    have c1 : wr.cell? ⟨be, 0, none⟩ = some (.int .i64 F) := cell_of_row wr be 0 _ _ _ hLd.err
    clear hLd hbk hO hlk H7 HM7 hl2
    by_cases hlt : k < M
    · have d0 : decide ((k : Int) < (M : Int)) = true := by simp; omega
      by_cases hF : F = 0
      · subst hF
        have hl8 := HL2.out rfl
        have hbd := tkN_bd L
        have m1 : wr.cell? ⟨bm, 1, none⟩ = some v := cell_of_row wr bm 1 _ _ _ HBK.out
        have hown := ownNe HO.out HBK.out (by decide)
        have HOW := Lib.hid hown
        clear hown
        go_wp2_with fail
        have HLw : Hid (Ld w wr.drew b0 be bl L 0) := Lib.hid (HLd.out.fresh (w' := wr.drew) ⟨rfl, rfl, rfl, Nat.le_refl _, fun _ _ => rfl⟩)
        have hbml := lt_of_cell m1
        have HOd : Hid (Go.Bl.Own wr.drew w.heap.size 3 1 intc v l) := Lib.hid HO.out
        have HBKd : Hid (wr.drew.heap[bm]? = some (.cells #[.int .i64 n, v] 37 (0, 0))) := Lib.hid HBK.out
        have HOl := Lib.hid (ownNe HO.out HLd.out.left (by decide))
        have HOe := Lib.hid (ownNe HO.out HLd.out.err (by decide))
        refine wp_region_noPanic ?_
        refine region_loads 5 2 (fun x => x.cell? ⟨bm, 1, none⟩ = some v) (by kernel_rfl) (by kernel_rfl) (fun _ _ _ _ h => h) m1 ⟨.pointer (some ⟨bm, 1, none⟩), .inl ⟨rfl, fun x hx => by go_simp⟩, v, .inl ⟨rfl, fun x hx => by go_simp⟩, rfl⟩ ?_
        simp only [List.drop_succ_cons, List.drop_zero]
        refine wpListS_step (fun K hK => ?_)
        go_simp
        refine hK _ _ (fun _ => m1) ?_
        clear hK K
        refine wpListS_step (fun K hK => ?_)
        go_simp
        refine (HLw.out.take (by omega)).mono ?_
        rintro e w8 ⟨rfl, h8, hk8⟩
        have m2 : w8.cell? ⟨bm, 1, none⟩ = some v := (hk8.cell (a := ⟨bm, 1, none⟩) hbml (fun e => e.elim hbm3 hbm2)).trans m1
        have H8 := Lib.hid h8
        have HO8 := Lib.hid (HOd.out.keep hk8 (fun b e e2 => e2.elim (fun e2 => HOl.out (e2 ▸ e)) (fun e2 => HOe.out (e2 ▸ e))))
        have HBK8 := Lib.hid (hk8.grownTo HBKd.out (fun e => e.elim hbm3 hbm2))
        have hz8 := h8.past.size
        have hbm8 := lt_of_cell m2
        refine hK _ _ (fun _ => m2) ?_
        clear hK K h8 hk8
        refine wpListS_step (fun K hK => ?_)
        go_simp
        have HB8 := Lib.hid ((Below.refl _ w8).alloc (Nat.le_refl _) (.cells #[.int .i64 (tkN L).1] 3))
        refine hK _ _ (fun _ => (HB8.out.cell (p := ⟨bm, 1, none⟩) hbm8).trans m2) ?_
        clear hK K
        refine wpListS_late (Nat.le_refl _) ?_
        have HBK9 := Lib.hid (HB8.out.block bm hbm8 |>.trans HBK8.out)
        go_wp2_with (at_builtin; refine elIntM.append _ (by rfl) _ _ rfl w.heap.size v l rfl (HO8.out.fresh HB8.out) _ _ [(tkN L).1] rfl (Sl.single (heap_alloc_new _ _) rfl) ?_ ?_ ?_; (simp; omega); (simp; omega); intro v' w9 hown9 hg9 hat9; obtain ⟨A9, c9, rfl, hA91, hA92⟩ := hown9.shape_ (n := l.length + 1) (by rw [List.length_append, List.length_singleton]); have hbk9 := (Keeps.of_grown hg9).grownTo HBK9.out (fun e => HOW.out e); have m3 : w9.cell? ⟨bm, 1, none⟩ = some v := cell_of_row w9 bm 1 _ _ _ hbk9; have f3 : w9.frozen? ⟨bm, 1, none⟩ = false := frozen_block hbk9 1; have H9 := Lib.hid hown9; have HG9 := Lib.hid hg9; have HBK10 := Lib.hid hbk9; clear hown9 hg9 hbk9)
        refine NoPanic.normal ?_
        have hN2 : Hid (numsE E2 M L2 = ((l ++ [(tkN L).1]) ++ (numsE (andE 0 (tkN L).2.2) (M - (k + 1)) (tkN L).2.1).1, (numsE (andE 0 (tkN L).2.2) (M - (k + 1)) (tkN L).2.1).2)) := Lib.hid (by
          rw [hN.out, show andE 0 (tkN L).2.2 = (tkN L).2.2 from rfl]
          have e1 : numsE 0 (M - k) L = numsF ((M - (k + 1)) + 1) L := by rw [show M - k = (M - (k + 1)) + 1 by omega]; rfl
          rw [e1]
          unfold numsF numsE
          by_cases e2 : (tkN L).2.2 = 0
          · rw [if_pos e2, if_pos e2]; simp
          · rw [if_neg e2, if_neg e2]; simp)
        have hless := fun e => tkN_less (s := L) e
        have HLE := Lib.hid hless
        have hbd5 := hbd.2.2.2.2
        have HOr := Lib.hid (ownNe HO.out HLd.out.res (by decide))
        have hLd9 : Ld w (w9.setCell ⟨bm, 1, none⟩ (.slice A9 (l.length + 1) c9)) b0 be bl (tkN L).2.1 (andE 0 (tkN L).2.2) :=
          ((H8.out.fresh HB8.out).other (Keeps.of_grown HG9.out) (fun q e => ⟨(HO8.out.lt q e |>.1), fun e2 => HOr.out (e2 ▸ e), fun e2 => HOe.out (e2 ▸ e), fun e2 => HOl.out (e2 ▸ e)⟩)).other (Keeps.one w9 bm 1 _) (fun q e => by subst e; exact ⟨hbm0, hbm1, hbm2, hbm3⟩)
        have hbk11 := setCell_block (o := 1) HBK10.out (.slice A9 (l.length + 1) c9)
        have hO11 : Go.Bl.Own (w9.setCell ⟨bm, 1, none⟩ (.slice A9 (l.length + 1) c9)) w.heap.size 3 1 intc (.slice A9 (l.length + 1) c9) (l ++ [(tkN L).1]) := H9.out.keep (Keeps.one w9 bm 1 _) (fun q e e2 => ownNe H9.out HBK10.out (by decide) (e2 ▸ e))
        have HLD9 := Lib.hid hLd9
        have HBK11 := Lib.hid hbk11
        have HO11 := Lib.hid hO11
        generalize w9.setCell ⟨bm, 1, none⟩ (.slice A9 (l.length + 1) c9) = w10 at HLD9 HBK11 HO11 ⊢
        clear hless hLd9 hbk11 hO11 m1 m2 m3 f3 hbd c1
        go_wp2_with fail
        go_roundw
        case rel => exact ⟨k + 1, l ++ [(tkN L).1], (tkN L).2.1, andE 0 (tkN L).2.2, .slice A9 (l.length + 1) c9, by omega, by rw [List.length_append, List.length_singleton, HLK.out], by go_num, HLD9.out, HBK11.out, HO11.out, by rw [List.length_append, List.length_singleton]; omega, fun e => by have := HLE.out e; rw [List.length_append, List.length_singleton]; omega, hN2⟩
        case measure => simp [intOf]; omega
      · have dF : (F == 0) = false := by rw [beq_eq_false_iff_ne]; exact hF
        have hr : Hid (numsE F (M - k) L = ([], L, F)) := Lib.hid (if_neg hF)
        have HF := Lib.hid hF
        clear hF
        have HDD : Hid (D = (n, l, decide (F = 0) && decide (L = []) && decide (R = []) && rightB n l)) := Lib.hid (by rw [HD1.out, hN.out, hr.out]; simp only [List.append_nil])
        have r0 : wr.cell? ⟨b0, 0, none⟩ = some (.int .i64 0) := cell_of_row wr b0 0 _ _ _ HLd.out.res
        have r1 : wr.cell? ⟨b0, 1, none⟩ = some (.slice none 0 0) := cell_of_row wr b0 1 _ _ _ HLd.out.res
        have s0 : wr.frozen? ⟨b0, 0, none⟩ = false := frozen_block HLd.out.res 0
        have s1 : wr.frozen? ⟨b0, 1, none⟩ = false := frozen_block HLd.out.res 1
        have cl : wr.cell? ⟨bl, 0, none⟩ = some (.string (Bl L)) := cell_of_row wr bl 0 _ _ _ HLd.out.left
        have m0 : wr.cell? ⟨bm, 0, none⟩ = some (.int .i64 n) := cell_of_row wr bm 0 _ _ _ HBK.out
        have m1 : wr.cell? ⟨bm, 1, none⟩ = some v := cell_of_row wr bm 1 _ _ _ HBK.out
        have heL := empty_of (l := L)
        have heR := empty_of (l := R)
        clear hr hN HD1
        by_cases gF : F = 0
        · by_cases gL : L = []
          · rw [decide_eq_true gL] at heL
            by_cases gR : R = []
            · rw [decide_eq_true gR] at heR
              have hri := right_any wr n v l _ (HO.out.sl elIntM.len)
              cases hR : rightB n l
              · have HX : Hid (D.2.2 = false) := Lib.hid (by rw [HDD.out, hR, Bool.and_false])
                rw [hR] at hri
                have HRI := Lib.hid hri
                have GF := Lib.hid gF
                have d9 : (F != 0) = false := by rw [gF]; decide
                clear gF gL gR hR hri
                go_wp2_with fail
                refine HRI.out.mono ?_
                rintro e w8 ⟨rfl, hB8⟩
                have h8 := HLd.out.fresh hB8
                have r0 : w8.cell? ⟨b0, 0, none⟩ = some (.int .i64 0) := cell_of_row w8 b0 0 _ _ _ h8.res
                have r1 : w8.cell? ⟨b0, 1, none⟩ = some (.slice none 0 0) := cell_of_row w8 b0 1 _ _ _ h8.res
                have s0 : w8.frozen? ⟨b0, 0, none⟩ = false := frozen_block h8.res 0
                have s1 : w8.frozen? ⟨b0, 1, none⟩ = false := frozen_block h8.res 1
                have H8 := Lib.hid h8
                clear h8 hB8
                go_wp2_with fail
                have k1 := setCell_block (o := 0) H8.out.res (.int .i64 0)
                have k2 := setCell_block (o := 1) k1 (.slice none 0 0)
                have q0 := cell_of_row _ b0 0 _ _ _ k2
                have q1 := cell_of_row _ b0 1 _ _ _ k2
                have hp := (H8.out.past.setCell (p := ⟨b0, 0, none⟩) H8.out.g0 (.int .i64 0)).setCell (p := ⟨b0, 1, none⟩) H8.out.g0 (.slice none 0 0)
                generalize (w8.setCell ⟨b0, 0, none⟩ (.int .i64 0)).setCell ⟨b0, 1, none⟩ (.slice none 0 0) = w9 at k2 q0 q1 hp ⊢
                refine bodyPost_ret (v := .tuple #[.agg #[.int .i64 0, .slice none 0 0], .int .i64 2]) (by simp [results, Tryz.results10, go_sem, q0, q1]) rfl ⟨?_, hp⟩
                rw [if_neg (by rw [HX.out]; decide)]
              · have HX : Hid (D.2.2 = true) := Lib.hid (by rw [HDD.out, hR, decide_eq_true gF, decide_eq_true gL, decide_eq_true gR]; rfl)
                have HX1 : Hid (D.1 = n ∧ D.2.1 = l) := Lib.hid (by rw [HDD.out]; exact ⟨rfl, rfl⟩)
                rw [hR] at hri
                have HRI := Lib.hid hri
                have d9 : (F != 0) = false := by rw [gF]; decide
                have GF := Lib.hid gF
                clear gF gL gR hR hri
                obtain ⟨A, c, rfl, hA1, hA2⟩ := HO.out.shape_ rfl
                go_wp2_with fail
                refine HRI.out.mono ?_
                rintro e w8 ⟨rfl, hB8⟩
                have h8 := HLd.out.fresh hB8
                have m0 := (hB8.cell (p := ⟨bm, 0, none⟩) (lt_of_cell m0)).trans m0
                have m1 := (hB8.cell (p := ⟨bm, 1, none⟩) (lt_of_cell m1)).trans m1
                have r0 : w8.cell? ⟨b0, 0, none⟩ = some (.int .i64 0) := cell_of_row w8 b0 0 _ _ _ h8.res
                have r1 : w8.cell? ⟨b0, 1, none⟩ = some (.slice none 0 0) := cell_of_row w8 b0 1 _ _ _ h8.res
                have s0 : w8.frozen? ⟨b0, 0, none⟩ = false := frozen_block h8.res 0
                have s1 : w8.frozen? ⟨b0, 1, none⟩ = false := frozen_block h8.res 1
                have HO8 := Lib.hid (HO.out.fresh hB8)
                have H8 := Lib.hid h8
                clear h8 hB8
                go_wp2_with fail
                have k1 := setCell_block (o := 0) H8.out.res (.int .i64 n)
                have k2 := setCell_block (o := 1) k1 (.slice A l.length c)
                have q0 := cell_of_row _ b0 0 _ _ _ k2
                have q1 := cell_of_row _ b0 1 _ _ _ k2
                have hp := (H8.out.past.setCell (p := ⟨b0, 0, none⟩) H8.out.g0 (.int .i64 n)).setCell (p := ⟨b0, 1, none⟩) H8.out.g0 (.slice A l.length c)
                have hk9 := (Keeps.one w8 b0 0 (.int .i64 n)).trans (Keeps.one _ b0 1 (.slice A l.length c))
                have hO9 := HO8.out.keep hk9 (fun b e e2 => ownNe HO8.out H8.out.res (by decide) (e2 ▸ e))
                have hs9 := (hO9.sl elIntM.len).mono (F' := fun k => w.heap.size ≤ k) (fun k _ e => (hO9.lt k e).1)
                generalize (w8.setCell ⟨b0, 0, none⟩ (.int .i64 n)).setCell ⟨b0, 1, none⟩ (.slice A l.length c) = w9 at k2 q0 q1 hp hs9 ⊢
                refine bodyPost_ret (v := .tuple #[.agg #[.int .i64 n, .slice A l.length c], .int .i64 0]) (by simp [results, Tryz.results10, go_sem, q0, q1]) rfl ⟨?_, hp⟩
                rw [if_pos HX.out, HX1.out.1, HX1.out.2]
                exact ⟨_, rfl, hs9⟩
            · have HX : Hid (D.2.2 = false) := Lib.hid (by rw [HDD.out, decide_eq_false gR, Bool.and_false, Bool.false_and])
              rw [decide_eq_false gR] at heR
              have d9 : (F != 0) = false := by rw [gF]; decide
              have GF := Lib.hid gF
              clear gF gL gR
              go_wp2_with fail
              have k1 := setCell_block (o := 0) HLd.out.res (.int .i64 0)
              have k2 := setCell_block (o := 1) k1 (.slice none 0 0)
              have q0 := cell_of_row _ b0 0 _ _ _ k2
              have q1 := cell_of_row _ b0 1 _ _ _ k2
              have hp := (HLd.out.past.setCell (p := ⟨b0, 0, none⟩) HLd.out.g0 (.int .i64 0)).setCell (p := ⟨b0, 1, none⟩) HLd.out.g0 (.slice none 0 0)
              generalize (wr.setCell ⟨b0, 0, none⟩ (.int .i64 0)).setCell ⟨b0, 1, none⟩ (.slice none 0 0) = w9 at k2 q0 q1 hp ⊢
              refine bodyPost_ret (v := .tuple #[.agg #[.int .i64 0, .slice none 0 0], .int .i64 2]) (by simp [results, Tryz.results10, go_sem, q0, q1]) rfl ⟨?_, hp⟩
              rw [if_neg (by rw [HX.out]; decide)]
          · have HX : Hid (D.2.2 = false) := Lib.hid (by rw [HDD.out, decide_eq_false gL, Bool.and_false, Bool.false_and, Bool.false_and])
            rw [decide_eq_false gL] at heL
            have d9 : (F != 0) = false := by rw [gF]; decide
            have GF := Lib.hid gF
            clear gF gL
            go_wp2_with fail
            have k1 := setCell_block (o := 0) HLd.out.res (.int .i64 0)
            have k2 := setCell_block (o := 1) k1 (.slice none 0 0)
            have q0 := cell_of_row _ b0 0 _ _ _ k2
            have q1 := cell_of_row _ b0 1 _ _ _ k2
            have hp := (HLd.out.past.setCell (p := ⟨b0, 0, none⟩) HLd.out.g0 (.int .i64 0)).setCell (p := ⟨b0, 1, none⟩) HLd.out.g0 (.slice none 0 0)
            generalize (wr.setCell ⟨b0, 0, none⟩ (.int .i64 0)).setCell ⟨b0, 1, none⟩ (.slice none 0 0) = w9 at k2 q0 q1 hp ⊢
            refine bodyPost_ret (v := .tuple #[.agg #[.int .i64 0, .slice none 0 0], .int .i64 2]) (by simp [results, Tryz.results10, go_sem, q0, q1]) rfl ⟨?_, hp⟩
            rw [if_neg (by rw [HX.out]; decide)]
        · have HX : Hid (D.2.2 = false) := Lib.hid (by rw [HDD.out, decide_eq_false gF, Bool.false_and, Bool.false_and, Bool.false_and])
          have d9 : (F != 0) = true := by simpa using gF
          have GF := Lib.hid gF
          clear gF
          go_wp2_with fail
          have k1 := setCell_block (o := 0) HLd.out.res (.int .i64 0)
          have k2 := setCell_block (o := 1) k1 (.slice none 0 0)
          have q0 := cell_of_row _ b0 0 _ _ _ k2
          have q1 := cell_of_row _ b0 1 _ _ _ k2
          have hp := (HLd.out.past.setCell (p := ⟨b0, 0, none⟩) HLd.out.g0 (.int .i64 0)).setCell (p := ⟨b0, 1, none⟩) HLd.out.g0 (.slice none 0 0)
          generalize (wr.setCell ⟨b0, 0, none⟩ (.int .i64 0)).setCell ⟨b0, 1, none⟩ (.slice none 0 0) = w9 at k2 q0 q1 hp ⊢
          refine bodyPost_ret (v := .tuple #[.agg #[.int .i64 0, .slice none 0 0], .int .i64 2]) (by simp [results, Tryz.results10, go_sem, q0, q1]) rfl ⟨?_, hp⟩
          rw [if_neg (by rw [HX.out]; decide)]
    · have d0 : decide ((k : Int) < (M : Int)) = false := by simp; omega
      have hr : Hid (numsE F (M - k) L = ([], L, F)) := Lib.hid (by
        rw [show M - k = 0 by omega]
        unfold numsE
        split
        · rename_i e; rw [e]; rfl
        · rfl)
      have HDD : Hid (D = (n, l, decide (F = 0) && decide (L = []) && decide (R = []) && rightB n l)) := Lib.hid (by rw [HD1.out, hN.out, hr.out]; simp only [List.append_nil])
      have r0 : wr.cell? ⟨b0, 0, none⟩ = some (.int .i64 0) := cell_of_row wr b0 0 _ _ _ HLd.out.res
      have r1 : wr.cell? ⟨b0, 1, none⟩ = some (.slice none 0 0) := cell_of_row wr b0 1 _ _ _ HLd.out.res
      have s0 : wr.frozen? ⟨b0, 0, none⟩ = false := frozen_block HLd.out.res 0
      have s1 : wr.frozen? ⟨b0, 1, none⟩ = false := frozen_block HLd.out.res 1
      have cl : wr.cell? ⟨bl, 0, none⟩ = some (.string (Bl L)) := cell_of_row wr bl 0 _ _ _ HLd.out.left
      have m0 : wr.cell? ⟨bm, 0, none⟩ = some (.int .i64 n) := cell_of_row wr bm 0 _ _ _ HBK.out
      have m1 : wr.cell? ⟨bm, 1, none⟩ = some v := cell_of_row wr bm 1 _ _ _ HBK.out
      have heL := empty_of (l := L)
      have heR := empty_of (l := R)
      clear hr hN HD1
      by_cases gF : F = 0
      · by_cases gL : L = []
        · rw [decide_eq_true gL] at heL
          by_cases gR : R = []
          · rw [decide_eq_true gR] at heR
            have hri := right_any wr n v l _ (HO.out.sl elIntM.len)
            cases hR : rightB n l
            · have HX : Hid (D.2.2 = false) := Lib.hid (by rw [HDD.out, hR, Bool.and_false])
              rw [hR] at hri
              have HRI := Lib.hid hri
              have GF := Lib.hid gF
              have d9 : (F != 0) = false := by rw [gF]; decide
              clear gF gL gR hR hri
              go_wp2_with fail
              refine HRI.out.mono ?_
              rintro e w8 ⟨rfl, hB8⟩
              have h8 := HLd.out.fresh hB8
              have r0 : w8.cell? ⟨b0, 0, none⟩ = some (.int .i64 0) := cell_of_row w8 b0 0 _ _ _ h8.res
              have r1 : w8.cell? ⟨b0, 1, none⟩ = some (.slice none 0 0) := cell_of_row w8 b0 1 _ _ _ h8.res
              have s0 : w8.frozen? ⟨b0, 0, none⟩ = false := frozen_block h8.res 0
              have s1 : w8.frozen? ⟨b0, 1, none⟩ = false := frozen_block h8.res 1
              have H8 := Lib.hid h8
              clear h8 hB8
              go_wp2_with fail
              have k1 := setCell_block (o := 0) H8.out.res (.int .i64 0)
              have k2 := setCell_block (o := 1) k1 (.slice none 0 0)
              have q0 := cell_of_row _ b0 0 _ _ _ k2
              have q1 := cell_of_row _ b0 1 _ _ _ k2
              have hp := (H8.out.past.setCell (p := ⟨b0, 0, none⟩) H8.out.g0 (.int .i64 0)).setCell (p := ⟨b0, 1, none⟩) H8.out.g0 (.slice none 0 0)
              generalize (w8.setCell ⟨b0, 0, none⟩ (.int .i64 0)).setCell ⟨b0, 1, none⟩ (.slice none 0 0) = w9 at k2 q0 q1 hp ⊢
              refine bodyPost_ret (v := .tuple #[.agg #[.int .i64 0, .slice none 0 0], .int .i64 2]) (by simp [results, Tryz.results10, go_sem, q0, q1]) rfl ⟨?_, hp⟩
              rw [if_neg (by rw [HX.out]; decide)]
            · have HX : Hid (D.2.2 = true) := Lib.hid (by rw [HDD.out, hR, decide_eq_true gF, decide_eq_true gL, decide_eq_true gR]; rfl)
              have HX1 : Hid (D.1 = n ∧ D.2.1 = l) := Lib.hid (by rw [HDD.out]; exact ⟨rfl, rfl⟩)
              rw [hR] at hri
              have HRI := Lib.hid hri
              have d9 : (F != 0) = false := by rw [gF]; decide
              have GF := Lib.hid gF
              clear gF gL gR hR hri
              obtain ⟨A, c, rfl, hA1, hA2⟩ := HO.out.shape_ rfl
              go_wp2_with fail
              refine HRI.out.mono ?_
              rintro e w8 ⟨rfl, hB8⟩
              have h8 := HLd.out.fresh hB8
              have m0 := (hB8.cell (p := ⟨bm, 0, none⟩) (lt_of_cell m0)).trans m0
              have m1 := (hB8.cell (p := ⟨bm, 1, none⟩) (lt_of_cell m1)).trans m1
              have r0 : w8.cell? ⟨b0, 0, none⟩ = some (.int .i64 0) := cell_of_row w8 b0 0 _ _ _ h8.res
              have r1 : w8.cell? ⟨b0, 1, none⟩ = some (.slice none 0 0) := cell_of_row w8 b0 1 _ _ _ h8.res
              have s0 : w8.frozen? ⟨b0, 0, none⟩ = false := frozen_block h8.res 0
              have s1 : w8.frozen? ⟨b0, 1, none⟩ = false := frozen_block h8.res 1
              have HO8 := Lib.hid (HO.out.fresh hB8)
              have H8 := Lib.hid h8
              clear h8 hB8
              go_wp2_with fail
              have k1 := setCell_block (o := 0) H8.out.res (.int .i64 n)
              have k2 := setCell_block (o := 1) k1 (.slice A l.length c)
              have q0 := cell_of_row _ b0 0 _ _ _ k2
              have q1 := cell_of_row _ b0 1 _ _ _ k2
              have hp := (H8.out.past.setCell (p := ⟨b0, 0, none⟩) H8.out.g0 (.int .i64 n)).setCell (p := ⟨b0, 1, none⟩) H8.out.g0 (.slice A l.length c)
              have hk9 := (Keeps.one w8 b0 0 (.int .i64 n)).trans (Keeps.one _ b0 1 (.slice A l.length c))
              have hO9 := HO8.out.keep hk9 (fun b e e2 => ownNe HO8.out H8.out.res (by decide) (e2 ▸ e))
              have hs9 := (hO9.sl elIntM.len).mono (F' := fun k => w.heap.size ≤ k) (fun k _ e => (hO9.lt k e).1)
              generalize (w8.setCell ⟨b0, 0, none⟩ (.int .i64 n)).setCell ⟨b0, 1, none⟩ (.slice A l.length c) = w9 at k2 q0 q1 hp hs9 ⊢
              refine bodyPost_ret (v := .tuple #[.agg #[.int .i64 n, .slice A l.length c], .int .i64 0]) (by simp [results, Tryz.results10, go_sem, q0, q1]) rfl ⟨?_, hp⟩
              rw [if_pos HX.out, HX1.out.1, HX1.out.2]
              exact ⟨_, rfl, hs9⟩
          · have HX : Hid (D.2.2 = false) := Lib.hid (by rw [HDD.out, decide_eq_false gR, Bool.and_false, Bool.false_and])
            rw [decide_eq_false gR] at heR
            have d9 : (F != 0) = false := by rw [gF]; decide
            have GF := Lib.hid gF
            clear gF gL gR
            go_wp2_with fail
            have k1 := setCell_block (o := 0) HLd.out.res (.int .i64 0)
            have k2 := setCell_block (o := 1) k1 (.slice none 0 0)
            have q0 := cell_of_row _ b0 0 _ _ _ k2
            have q1 := cell_of_row _ b0 1 _ _ _ k2
            have hp := (HLd.out.past.setCell (p := ⟨b0, 0, none⟩) HLd.out.g0 (.int .i64 0)).setCell (p := ⟨b0, 1, none⟩) HLd.out.g0 (.slice none 0 0)
            generalize (wr.setCell ⟨b0, 0, none⟩ (.int .i64 0)).setCell ⟨b0, 1, none⟩ (.slice none 0 0) = w9 at k2 q0 q1 hp ⊢
            refine bodyPost_ret (v := .tuple #[.agg #[.int .i64 0, .slice none 0 0], .int .i64 2]) (by simp [results, Tryz.results10, go_sem, q0, q1]) rfl ⟨?_, hp⟩
            rw [if_neg (by rw [HX.out]; decide)]
        · have HX : Hid (D.2.2 = false) := Lib.hid (by rw [HDD.out, decide_eq_false gL, Bool.and_false, Bool.false_and, Bool.false_and])
          rw [decide_eq_false gL] at heL
          have d9 : (F != 0) = false := by rw [gF]; decide
          have GF := Lib.hid gF
          clear gF gL
          go_wp2_with fail
          have k1 := setCell_block (o := 0) HLd.out.res (.int .i64 0)
          have k2 := setCell_block (o := 1) k1 (.slice none 0 0)
          have q0 := cell_of_row _ b0 0 _ _ _ k2
          have q1 := cell_of_row _ b0 1 _ _ _ k2
          have hp := (HLd.out.past.setCell (p := ⟨b0, 0, none⟩) HLd.out.g0 (.int .i64 0)).setCell (p := ⟨b0, 1, none⟩) HLd.out.g0 (.slice none 0 0)
          generalize (wr.setCell ⟨b0, 0, none⟩ (.int .i64 0)).setCell ⟨b0, 1, none⟩ (.slice none 0 0) = w9 at k2 q0 q1 hp ⊢
          refine bodyPost_ret (v := .tuple #[.agg #[.int .i64 0, .slice none 0 0], .int .i64 2]) (by simp [results, Tryz.results10, go_sem, q0, q1]) rfl ⟨?_, hp⟩
          rw [if_neg (by rw [HX.out]; decide)]
      · have HX : Hid (D.2.2 = false) := Lib.hid (by rw [HDD.out, decide_eq_false gF, Bool.false_and, Bool.false_and, Bool.false_and])
        have d9 : (F != 0) = true := by simpa using gF
        have GF := Lib.hid gF
        clear gF
        go_wp2_with fail
        have k1 := setCell_block (o := 0) HLd.out.res (.int .i64 0)
        have k2 := setCell_block (o := 1) k1 (.slice none 0 0)
        have q0 := cell_of_row _ b0 0 _ _ _ k2
        have q1 := cell_of_row _ b0 1 _ _ _ k2
        have hp := (HLd.out.past.setCell (p := ⟨b0, 0, none⟩) HLd.out.g0 (.int .i64 0)).setCell (p := ⟨b0, 1, none⟩) HLd.out.g0 (.slice none 0 0)
        generalize (wr.setCell ⟨b0, 0, none⟩ (.int .i64 0)).setCell ⟨b0, 1, none⟩ (.slice none 0 0) = w9 at k2 q0 q1 hp ⊢
        refine bodyPost_ret (v := .tuple #[.agg #[.int .i64 0, .slice none 0 0], .int .i64 2]) (by simp [results, Tryz.results10, go_sem, q0, q1]) rfl ⟨?_, hp⟩
        rw [if_neg (by rw [HX.out]; decide)]
end Go.Proofs.YthdehdlbocgfaaaGreatDoor

/- What was saved is loaded; which files acts leave alone: in plain words. Under the stated premises. -/
namespace Go.Proofs.YthdehdlbocgfaaaGreatDoor
open Go.RowKit Go.Bl

theorem numsF_put : ∀ (l : List Int) (r : List UInt8), (∀ x ∈ l, 0 ≤ x ∧ x ≤ 1099511627776) → numsF l.length (l.flatMap pb ++ r) = (l, r, 0)
  | [], _, _ => rfl
  | x :: l, r, h => by
    have hx := h x (List.mem_cons_self ..)
    have ht := tkN_pay (n := x) hx.1 hx.2 (l.flatMap pb ++ r)
    have hr := numsF_put l r (fun y hy => h y (List.mem_cons_of_mem _ hy))
    rw [List.length_cons, List.flatMap_cons, List.append_assoc]
    unfold numsF
    rw [show pb x = bytesOf (putL x.toNat) from rfl, ht, if_pos rfl]
    simp only [hr]
theorem ld_save {n : Int} {l : List Int} (h : rightB n l = true) : ldF (frmL crcU (manL n l)) = (n, l, true) := by
  obtain ⟨h1, h2, h3, h4⟩ := rightB_bd h
  have hfl := flat_len l (fun x hx => by have := h4 x hx; omega)
  have hp1 := pb_len (n := n) (by omega)
  have hp2 := pb_len (n := (l.length : Int)) (by omega)
  have hm : (manL n l).length = (pb n).length + (pb l.length).length + (l.flatMap pb).length := by unfold manL; rw [List.length_append, List.length_append]
  have ht := tkF_put crcU crcU_lt (manL n l) [] (by omega) (by omega)
  rw [List.append_nil] at ht
  have e1 : tkN (manL n l) = (n, pb l.length ++ l.flatMap pb, 0) := by
    unfold manL
    rw [List.append_assoc]
    exact tkN_pay (by omega) (by omega) _
  have e2 : tkN (pb l.length ++ l.flatMap pb) = ((l.length : Int), l.flatMap pb, 0) := tkN_pay (by omega) (by omega) _
  have e3 := numsF_put l [] (fun x hx => by have := h4 x hx; omega)
  rw [List.append_nil] at e3
  unfold ldF
  rw [ht]
  unfold ldP
  rw [e1]
  simp only [e2]
  have e4 : numsE (andE (andE 0 0) 0) ((l.length : Int)).toNat (l.flatMap pb) = (l, [], 0) := by
    show (if (0 : Int) = 0 then numsF l.length (l.flatMap pb) else _) = _
    rw [if_pos rfl, e3]
  rw [e4, h]
  rfl

theorem find_map_name (r : Int) (L : List Fl) (x y : ByteArray) (g : Fl → Fl) (hg : ∀ f, (g f).name = f.name) (hxy : y ≠ x) : (⟨r, updL x g L⟩ : Dk).find y = (⟨r, L⟩ : Dk).find y := by
  unfold Dk.find updL
  induction L with
  | nil => rfl
  | cons f L ih =>
    rw [List.map_cons, List.find?_cons, List.find?_cons]
    by_cases e : f.name = x
    · rw [if_pos e]
      have h1 : decide ((g f).name = y) = false := by rw [hg, e, decide_eq_false_iff_not]; exact fun h => hxy h.symm
      have h2 : decide (f.name = y) = false := by rw [e, decide_eq_false_iff_not]; exact fun h => hxy h.symm
      rw [h1, h2]
      exact ih
    · rw [if_neg e]
      cases decide (f.name = y)
      · exact ih
      · rfl
theorem find_filter (r r' : Int) (L : List Fl) (x y : ByteArray) (hxy : y ≠ x) : (⟨r, L.filter fun f => decide (f.name ≠ x)⟩ : Dk).find y = (⟨r', L⟩ : Dk).find y := by
  unfold Dk.find
  induction L with
  | nil => rfl
  | cons f L ih =>
    rw [List.filter_cons, List.find?_cons]
    by_cases e : f.name = x
    · have h2 : decide (f.name = y) = false := by rw [e, decide_eq_false_iff_not]; exact fun h => hxy h.symm
      rw [if_neg (by simp [e]), h2]
      exact ih
    · rw [if_pos (by simpa using e), List.find?_cons]
      cases decide (f.name = y)
      · exact ih
      · rfl
theorem find_del (d : Dk) {x y : ByteArray} (hxy : y ≠ x) : (d.del x).find y = d.find y := find_filter _ _ _ _ _ hxy
theorem find_sync (d : Dk) {x y : ByteArray} (hxy : y ≠ x) : (d.sync x).find y = d.find y := find_map_name _ _ _ _ syncF (fun _ => rfl) hxy
theorem find_app (d : Dk) {x y : ByteArray} (s : ByteArray) (hxy : y ≠ x) : (d.app x s).2.find y = d.find y := by
  unfold Dk.app
  split
  · rfl
  · split
    · split
      · rfl
      · split
        · rfl
        · show List.find? _ (d.L ++ [_]) = _
          rw [List.find?_append]
          have h2 : List.find? (fun f => decide (f.name = y)) [(⟨x, s, 0⟩ : Fl)] = none := by simp; exact fun h => hxy h.symm
          rw [h2, Option.or_none]
          rfl
    · split
      · rfl
      · exact find_map_name _ _ _ _ (growF s) (fun _ => rfl) hxy
/-- A file that is whole is there behind a crash. -/
theorem find_crash (r r' : Int) (keep : List Int) (ks : List ByteArray) (L : List Fl) (hn : (L.map Fl.name).Nodup) {y : ByteArray} {f : Fl} (hy : (⟨r, L⟩ : Dk).find y = some f) (hs : f.syn = f.bytes.size) : ∀ k, (⟨r', crashN keep ks L k⟩ : Dk).find y = some f
  | 0 => hy
  | k + 1 => by
    have ih := find_crash r r' keep ks L hn hy hs k
    obtain ⟨hf, hfy⟩ := find_some ih
    show (⟨r', updL _ _ (crashN keep ks L k)⟩ : Dk).find y = _
    by_cases e : y = (ks[k]?).getD ByteArray.empty
    · have hnn : ((crashN keep ks L k).map Fl.name).Nodup := by rw [crashN_names]; exact hn
      have h1 : updL ((ks[k]?).getD ByteArray.empty) (cutF (keepOf keep k)) (crashN keep ks L k) = crashN keep ks L k := by
        unfold updL
        conv => rhs; rw [← List.map_id (crashN keep ks L k)]
        refine List.map_congr_left fun q hq => ?_
        by_cases e2 : q.name = (ks[k]?).getD ByteArray.empty
        · have hqf : q = f := nodup_at hnn hq hf (by rw [e2, hfy, ← e])
          rw [if_pos e2, hqf, cutF_whole (keepOf_nonneg keep k) hs]
          rfl
        · rw [if_neg e2]; rfl
      rw [h1]
      exact ih
    · rw [find_map_name r' (crashN keep ks L k) _ y (cutF (keepOf keep k)) (fun _ => rfl) e]
      exact ih
theorem find_crash_none (r r' : Int) (keep : List Int) (ks : List ByteArray) (L : List Fl) {y : ByteArray} (hy : (⟨r, L⟩ : Dk).find y = none) (k : Nat) : (⟨r', crashN keep ks L k⟩ : Dk).find y = none := by
  rw [find_none] at hy ⊢
  intro f hf e
  have h1 : f.name ∈ L.map Fl.name := by rw [← crashN_names keep ks L k]; exact List.mem_map.2 ⟨f, hf, rfl⟩
  obtain ⟨g, hg, e2⟩ := List.mem_map.1 h1
  exact hy g hg (e2.trans e)
theorem find_snoc (r : Int) (L : List Fl) (f : Fl) (h : ∀ g ∈ L, g.name ≠ f.name) : (⟨r, L ++ [f]⟩ : Dk).find f.name = some f := by
  unfold Dk.find
  rw [List.find?_append, List.find?_eq_none.2 (by simpa using h)]
  simp
/-- Which names there are. -/
def NamesIn (S : List ByteArray) (d : Dk) : Prop := ∀ f ∈ d.L, f.name ∈ S
theorem nodup_sub : ∀ (l S : List ByteArray), l.Nodup → (∀ x ∈ l, x ∈ S) → l.length ≤ S.length
  | [], _, _, _ => Nat.zero_le _
  | x :: l, S, hn, h => by
    rw [List.nodup_cons] at hn
    have hx := h x (List.mem_cons_self ..)
    have ih := nodup_sub l (S.filter fun y => decide (y ≠ x)) hn.2 (fun y hy => List.mem_filter.2 ⟨h y (List.mem_cons_of_mem _ hy), decide_eq_true fun e => hn.1 (by rw [← e]; exact hy)⟩)
    have h2 := (List.length_filter_lt_length_iff_exists (p := fun y => decide (y ≠ x)) (l := S)).2 ⟨x, hx, by simp⟩
    rw [List.length_cons]
    omega
theorem NamesIn.len {S : List ByteArray} {d : Dk} (h : NamesIn S d) (hn : (d.L.map Fl.name).Nodup) : d.L.length ≤ S.length := by
  have h2 := nodup_sub _ S hn (fun x hx => by obtain ⟨f, hf, rfl⟩ := List.mem_map.1 hx; exact h f hf)
  rw [List.length_map] at h2
  exact h2
end Go.Proofs.YthdehdlbocgfaaaGreatDoor

namespace Go.Proofs.YthdehdlbocgfaaaGreatDoor
open Go.RowKit Go.Bl

theorem epsF_snoc {p : List UInt8} {n : Int} (h1 : (tkN p).2.2 = 0) (h2 : (tkN p).2.1 = []) (h3 : (tkN p).1 = n) (h4 : n ≤ 274877906944) : ∀ (l : List (List UInt8)) (a : Int) (i : Nat), (epsF a i l).2.2 = true → (epsF a i l).1 < n → (epsF a i (l ++ [p])).1 = n
  | [], a, i, _, h => by
    show (epsF a i [p]).1 = n
    unfold epsF
    rw [if_pos ⟨h1, h2, by rw [h3]; exact h, by rw [h3]; exact h4⟩]
    exact h3
  | q :: l, a, i, hb, h => by
    show (epsF a i (q :: (l ++ [p]))).1 = n
    unfold epsF at hb h ⊢
    split
    · rename_i hq
      rw [if_pos hq] at hb h
      exact epsF_snoc h1 h2 h3 h4 l _ _ hb h
    · rename_i hq
      rw [if_neg hq] at hb
      cases hb
theorem epsS_snoc {S : List UInt8} {n : Int} (hb : (epsS S).2.2 = true) (ha : (epsS S).1 < n) (h1 : 1 ≤ n) (h2 : n ≤ 274877906944) : (epsS (S ++ frmL crcU (bytesOf (putL n.toNat)))).1 = n := by
  have hp := pay_len (n := n.toNat) (by omega)
  have ht := tkN_pay (n := n) (by omega) (by omega) []
  rw [List.append_nil] at ht
  unfold epsS at hb ha ⊢
  simp only [Bool.and_eq_true, decide_eq_true_eq] at hb
  rw [scanS_more crcU crcU_lt _ hp.1 (by omega) _ S (Nat.le_refl _) hb.2]
  exact epsF_snoc (by rw [ht]) (by rw [ht]) (by rw [ht]) h2 _ 0 0 hb.1 ha
theorem epsS_one {n : Int} (h1 : 1 ≤ n) (h2 : n ≤ 274877906944) : (epsS (Lb (mkF n))).1 = n := by
  have := epsS_ep (es := [n]) ⟨by omega, h2, trivial⟩
  have e : epL [n] = frmL crcU (bytesOf (putL n.toNat)) := by unfold epL; simp
  rw [e] at this
  unfold mkF
  rw [Lb_Bl, this]
  rfl
theorem mkF_size {n : Int} (h2 : n ≤ 274877906944) : (mkF n).size ≤ 14 := by
  have hp := pay_len (n := n.toNat) (by omega)
  show (frmL crcU (bytesOf (putL n.toNat))).length ≤ _
  unfold frmL
  rw [List.length_append, List.length_append, fixL_len, fixL_len]
  omega
/-- Two files. -/
def tellD (s b : ByteArray) (y : Int) : Dk := ⟨100000, [⟨sFile, s, 0⟩, ⟨sMark, b, y⟩]⟩
theorem file_only {s : ByteArray} : ∀ f ∈ [(⟨sFile, s, 0⟩ : Fl)], f.name ≠ sMark := fun f hf => by obtain rfl := List.mem_singleton.1 hf; exact fun e => mark_file e.symm
theorem total_one (f : Fl) : total [f] = f.bytes.size := by show f.bytes.size + 0 = _; omega
theorem tell_find (s b : ByteArray) (y : Int) : (tellD s b y).find sMark = some ⟨sMark, b, y⟩ := find_last (room := 100000) (L := [⟨sFile, s, 0⟩]) file_only
theorem tell_file (s b : ByteArray) (y : Int) : (tellD s b y).find sFile = some ⟨sFile, s, 0⟩ := by unfold Dk.find tellD; simp
theorem tell_sync (s b : ByteArray) (y : Int) : (tellD s b y).sync sMark = tellD s b b.size := sync_last (room := 100000) (L := [⟨sFile, s, 0⟩]) file_only
theorem tell_mark (s b : ByteArray) (y : Int) : (tellD s b y).mark = Lb b := by unfold Dk.mark; rw [tell_find]
theorem tell_begin (s t : ByteArray) (hs : s.size ≤ 2000) (ht : t.size ≤ 2000) : ((⟨100000, []⟩ : Dk).app sFile s) = (0, ⟨100000, [⟨sFile, s, 0⟩]⟩) ∧ ((⟨100000, [⟨sFile, s, 0⟩]⟩ : Dk).app sMark t) = (0, tellD s t 0) := by
  constructor
  · exact app_new (room := 100000) (L := []) file_name (fun _ h => by cases h) (by decide) (by have : total ([] : List Fl) = 0 := rfl; rw [this]; omega)
  · exact app_new (room := 100000) (L := [⟨sFile, s, 0⟩]) mark_name file_only (by show 1 < 40; decide) (by rw [total_one]; show ¬ (100000 : Int) - (s.size : Int) < _; omega)
/-- What Raise makes of it. -/
theorem tell_raise (s t : ByteArray) (hs : s.size ≤ 2000) (ht : t.size ≤ 2000) (n : Int) : ∃ b y, ((tellD s t 0).raise n).2 = tellD s b y ∧ b.size ≤ 3000 ∧ (((tellD s t 0).raise n).1 = 0 → y = b.size ∧ (epsS (Lb b)).1 = n ∧ (epsS (Lb t)).1 ≤ n) := by
  have hm := tell_mark s t 0
  by_cases h1 : n < 1 ∨ 274877906944 < n
  · refine ⟨t, 0, ?_⟩
    unfold Dk.raise
    rw [if_pos h1]
    exact ⟨rfl, by omega, fun h => by cases h⟩
  by_cases h2 : n < (epsS (Lb t)).1
  · refine ⟨t, 0, ?_⟩
    unfold Dk.raise
    rw [if_neg h1, hm, if_pos h2]
    exact ⟨rfl, by omega, fun h => by cases h⟩
  by_cases h3 : n = (epsS (Lb t)).1
  · refine ⟨t, t.size, ?_⟩
    unfold Dk.raise
    rw [if_neg h1, hm, if_neg h2, if_pos h3, tell_sync]
    exact ⟨rfl, by omega, fun _ => ⟨rfl, h3.symm, by omega⟩⟩
  have hsz := mkF_size (n := n) (by omega)
  by_cases hk : (epsS (Lb t)).2.2 = true ∧ (epsS (Lb t)).2.1 ≤ 20
  · have ha : (tellD s t 0).app sMark (mkF n) = (0, tellD s (t ++ mkF n) 0) := app_last (room := 100000) (L := [⟨sFile, s, 0⟩]) mark_name file_only (by rw [total_one]; show ¬ (100000 : Int) - ((s.size : Int) + (t.size : Int)) < _; omega)
    have hr := raise_new (d := tellD s t 0) (n := n) (a := (epsS (Lb t)).1) (m := (epsS (Lb t)).2.1) (b := (epsS (Lb t)).2.2) (r := (0, tellD s (t ++ mkF n) 0)) (by rw [hm]) h1 h2 h3 (by rw [if_pos hk, ha])
    rw [if_pos rfl, tell_find, tell_sync] at hr
    refine ⟨t ++ mkF n, ((t ++ mkF n).size : Nat), ?_⟩
    rw [hr]
    refine ⟨rfl, by rw [ByteArray.size_append]; omega, fun _ => ⟨rfl, ?_, by omega⟩⟩
    have e : Lb (t ++ mkF n) = Lb t ++ frmL crcU (bytesOf (putL n.toNat)) := by
      unfold mkF Lb Bl
      simp
    rw [e]
    exact epsS_snoc hk.1 (by omega) (by omega) (by omega)
  · have hd : (tellD s t 0).del sTemp = tellD s t 0 := del_not (y := sTemp) (fun f hf => by
      rcases List.mem_cons.1 hf with rfl | hf
      · exact file_temp
      · obtain rfl := List.mem_singleton.1 hf
        exact mark_temp)
    have hu : (tellD s t 0).used = (s.size : Int) + t.size := by
      show ((s.size + (t.size + 0) : Nat) : Int) = _
      omega
    have ha : (tellD s t 0).wr sMark (mkF n) = (0, tellD s (mkF n) (mkF n).size) := by
      rw [wr_ok mark_name mark_temp (by show 2 < 40; decide) (by rw [hd, hu]; show ¬ (100000 : Int) - _ < _; omega)]
      rfl
    have hr := raise_new (d := tellD s t 0) (n := n) (a := (epsS (Lb t)).1) (m := (epsS (Lb t)).2.1) (b := (epsS (Lb t)).2.2) (r := (0, tellD s (mkF n) (mkF n).size)) (by rw [hm]) h1 h2 h3 (by rw [if_neg hk, ha])
    rw [if_pos rfl, tell_find, tell_sync] at hr
    refine ⟨mkF n, ((mkF n).size : Nat), ?_⟩
    rw [hr]
    exact ⟨rfl, by omega, fun _ => ⟨rfl, epsS_one (by omega) (by omega), by omega⟩⟩
/-- A file written as a whole is there behind a crash. -/
theorem wr_crash {d : Dk} {s : ByteArray} {keep : List Int} {ks : List ByteArray} {r' : Int} {k : Nat} (hn : (((d.wr sFile s).2).L.map Fl.name).Nodup) (hl : d.L.length < 40) (hr : ¬ d.room - (d.del sTemp).used < s.size) : (⟨r', crashN keep ks (d.wr sFile s).2.L k⟩ : Dk).find sFile = some ⟨sFile, s, s.size⟩ := by
  have hw := wr_ok (d := d) (s := s) file_name file_temp hl hr
  rw [hw] at hn ⊢
  exact find_crash d.room r' keep ks _ hn (find_snoc d.room (restL d.L sFile) ⟨sFile, s, s.size⟩ fun g hg => by simpa using (List.mem_filter.1 hg).2) rfl k
theorem used_del (d : Dk) (x : ByteArray) : (d.del x).used ≤ d.used := by
  show ((total (d.L.filter fun f => decide (f.name ≠ x)) : Nat) : Int) ≤ ((total d.L : Nat) : Int)
  have := total_filter_le (fun f : Fl => decide (f.name ≠ x)) d.L
  omega
/-- Behind a crash. -/
theorem tell_crash {s b : ByteArray} {y : Int} (hs : s.size ≤ 2000) (hb : b.size ≤ 3000) (hok : (tellD s b y).Ok) (keep : List Int) (ks : List ByteArray) (k : Nat) :
    (crashN keep ks (tellD s b y).L k).length = 2 ∧ total (crashN keep ks (tellD s b y).L k) ≤ 5000 ∧ (y = b.size → (⟨100000, crashN keep ks (tellD s b y).L k⟩ : Dk).mark = Lb b) := by
  refine ⟨?_, ?_, fun hy => ?_⟩
  · have := congrArg List.length (crashN_names keep ks (tellD s b y).L k)
    rw [List.length_map, List.length_map] at this
    exact this
  · have h1 := crashN_le (keep := keep) (ks := ks) hok.syn k
    have h2 : total (tellD s b y).L = s.size + (b.size + 0) := rfl
    omega
  · have hn : ((tellD s b y).L.map Fl.name).Nodup := by
      show [sFile, sMark].Nodup
      decide
    unfold Dk.mark
    rw [find_crash 100000 100000 keep ks (tellD s b y).L hn (tell_find s b y) hy k]
/-- A manifest of few bytes. -/
theorem man_size {n : Int} {l : List Int} (h : rightB n l = true) : (Bl (frmL crcU (manL n l))).size ≤ 20 + 6 * l.length := by
  obtain ⟨h1, h2, h3, h4⟩ := rightB_bd h
  have hfl := flat_len l (fun x hx => by have := h4 x hx; omega)
  have hp1 := pb_len (n := n) (by omega)
  have hp2 := pb_len (n := (l.length : Int)) (by omega)
  have hm : (manL n l).length = (pb n).length + (pb l.length).length + (l.flatMap pb).length := by unfold manL; rw [List.length_append, List.length_append]
  show (frmL crcU (manL n l)).length ≤ _
  unfold frmL
  rw [List.length_append, List.length_append, fixL_len, fixL_len]
  omega
theorem save_is {d : Dk} {n : Int} {l : List Int} (h : rightB n l = true) : d.save n l = d.wr sFile (Bl (frmL crcU (manL n l))) := by
  unfold Dk.save
  rw [if_pos h]
theorem sl_block {α : Type} {w : World} {k : Nat} {enc : α → List Value} {l : List α} {g : Nat} {cs : Array Value} {e : TypeId} {fr : Nat × Nat} {n : Nat} (hk : ∀ x, (enc x).length = k)
    (hg : w.heap[g]? = some (.cells cs e fr)) (hc : cs.toList = l.flatMap enc) (hn : n = l.length) (hm : n ≤ maxLen) : Sl w (fun b => b = g) k enc (.slice (some ⟨g, 0, none⟩) n n) l := by
  subst hn
  refine ⟨_, _, rfl, Nat.le_refl _, hm, fun _ => ⟨g, 0, rfl, rfl, (Array.getElem?_eq_some_iff.1 hg).1, fun i hi j u hu => ?_⟩⟩
  have hj : j < k := by
    have := (List.getElem?_eq_some_iff.1 hu).1
    rwa [hk] at this
  have h1 := flatMap_at enc k hk l i hi j hj
  rw [hu, ← hc] at h1
  rw [Nat.zero_add, cell_of_row w g (i * k + j) cs e fr hg]
  simpa using h1
end Go.Proofs.YthdehdlbocgfaaaGreatDoor
