/- The manifest: Load. Under the stated premises on sizes. -/
import Derived.Test.YthdehdlbocgfaaaDoorSavA
import Derived.Test.YthdehdlbocgfaaaDoorManD
import Derived.Test.YthdehdlbocgfaaaDoorBlT
import Derived.Deep.RegionHeld3
namespace Go.Proofs.YthdehdlbocgfaaaDoor
open Go.RowKit Go.Bl
attribute [local go_sem ↓] Go.wp_at_zero Go.wp_at_succ

theorem infoIntM : (Tryd.prog.info? 3).map (fun i => (i.zero, i.size, i.bytes)) = some (some (.int .i64 0), 1, 8) := by kernel_rfl
theorem elIntM : El Tryd.prog 22 3 1 8 intc := ⟨Tryd.underlying22, ⟨_, infoIntM, rfl⟩, by decide, by decide, fun _ => rfl, fun x u h => by simp [intc] at h; subst h; rfl⟩
/-- The first error. -/
def andE (E F : Int) : Int := if E = 0 then F else E
/-- The closure that takes the next number. -/
theorem load1_any (w : World) (bl be : Nat) (L : List UInt8) (E : Int) (h1 : w.heap[bl]? = some (.cells #[.string (Bl L)] 9 (0, 0))) (h2 : w.heap[be]? = some (.cells #[.int .i64 E] 30 (0, 0))) (hL : L.length ≤ 1000000000000) :
    Calls Tryd.prog 32 #[.pointer (some ⟨bl, 0, none⟩), .pointer (some ⟨be, 0, none⟩)] w fun e w' => e = .returned (.int .i64 (tkN L).1) ∧ w'.heap[bl]? = some (.cells #[.string (Bl (tkN L).2.1)] 9 (0, 0)) ∧ w'.heap[be]? = some (.cells #[.int .i64 (andE E (tkN L).2.2)] 30 (0, 0)) ∧ Keeps (fun k => k = bl ∨ k = be) w w' := by
  have hne : bl ≠ be := fun e => by rw [e, h2] at h1; simp at h1
  have hc := fun W => take_any W (Bl L) (by rw [Bl_size]; exact hL)
  rw [Lb_Bl] at hc
  have c0 : w.cell? ⟨bl, 0, none⟩ = some (.string (Bl L)) := cell_of_row w bl 0 _ _ _ h1
  have HC := Lib.hid hc
  have H1 := Lib.hid h1
  have H2 := Lib.hid h2
  clear hc h1 h2
  go_enter Tryd.func32, Tryd.ntmps32
  go_wp2_with fail
  refine (HC.out _).mono ?_
  rintro e w1 ⟨rfl, hB1⟩
  have k1 := (hB1.block bl (Array.getElem?_eq_some_iff.1 H1.out).1).trans H1.out
  have k2 := (hB1.block be (Array.getElem?_eq_some_iff.1 H2.out).1).trans H2.out
  have c0 : w1.cell? ⟨bl, 0, none⟩ = some (.string (Bl L)) := cell_of_row w1 bl 0 _ _ _ k1
  have f0 : w1.frozen? ⟨bl, 0, none⟩ = false := frozen_block k1 0
  have K1 := Lib.hid k1
  have K2 := Lib.hid k2
  have HB1 := Lib.hid hB1
  clear k1 k2 hB1
  go_upto_region 3 with (fail)
  have k3 := setCell_block (o := 0) K1.out (.string (Bl (tkN L).2.1))
  have hk3 := Keeps.one w1 bl 0 (.string (Bl (tkN L).2.1))
  generalize w1.setCell ⟨bl, 0, none⟩ (.string (Bl (tkN L).2.1)) = w2 at k3 hk3 ⊢
  have k4 := hk3.grownTo K2.out (fun e => hne e.symm)
  have c1 : w2.cell? ⟨be, 0, none⟩ = some (.int .i64 E) := cell_of_row w2 be 0 _ _ _ k4
  have f1 : w2.frozen? ⟨be, 0, none⟩ = false := frozen_block k4 0
  have K3 := Lib.hid k3
  have K4 := Lib.hid k4
  have HK3 := Lib.hid (((Keeps.of_fresh HB1.out (fun k => k = bl ∨ k = be)).trans (hk3.mono (fun _ _ e => .inl e))))
  clear k3 k4 hk3 c0 f0
  by_cases e0 : E = 0
  · subst e0
    go_wp2_with fail
    go_ret
    have hk5 := Keeps.one w2 be 0 (.int .i64 (tkN L).2.2)
    have k5 := setCell_block (o := 0) K4.out (.int .i64 (tkN L).2.2)
    have k6 := hk5.grownTo K3.out hne
    rw [show andE 0 (tkN L).2.2 = (tkN L).2.2 from rfl]
    exact ⟨rfl, k6, k5, HK3.out.trans (hk5.mono (fun _ _ e => .inr e))⟩
  · have d0 : (E == 0) = false := by rw [beq_eq_false_iff_ne]; exact e0
    have E0 := Lib.hid e0
    clear e0
    go_wp2_with fail
    go_ret
    rw [show andE E (tkN L).2.2 = E from if_neg E0.out]
    exact ⟨rfl, K3.out, K4.out, HK3.out⟩
theorem tkL_used : ∀ (l : List UInt8) (i n : Nat), (tkL i n l).2.2 = 0 → i < (tkL i n l).2.1
  | [], i, n, h => by unfold tkL at h; simp at h
  | c :: l, i, n, h => by
    unfold tkL at h ⊢
    split
    · rename_i h1; rw [if_pos h1] at h; simp at h
    · rename_i h1
      rw [if_neg h1] at h
      split
      · rename_i h2
        rw [if_pos h2] at h
        have := tkL_used l (i + 1) _ h
        omega
      · rename_i h2
        rw [if_neg h2] at h
        split
        · rename_i h3; rw [if_pos h3] at h; simp at h
        · rename_i h3
          rw [if_neg h3] at h
          split
          · rename_i h4; rw [if_pos h4] at h; simp at h
          · exact Nat.lt_succ_self i
theorem tkN_less {s : List UInt8} (h : (tkN s).2.2 = 0) : (tkN s).2.1.length + 1 ≤ s.length := by
  have h1 : (tkL 0 0 s).2.2 = 0 := h
  have h2 := tkL_used s 0 0 h1
  have h3 := tkL_bd s 0 0 (by omega) (by decide)
  show (if (tkL 0 0 s).2.2 = 0 then s.drop (tkL 0 0 s).2.1 else []).length + 1 ≤ _
  rw [if_pos h1, List.length_drop]
  have := h3.2.1
  omega
theorem tkF_bad {s : List UInt8} (h : (tkF crcU s).2.2 ≠ 0) : (tkF crcU s).1 = [] := by
  unfold tkF at h ⊢
  split
  · rfl
  · rename_i h1
    rw [if_neg h1] at h
    split
    · rfl
    · rename_i h2
      rw [if_neg h2] at h
      split
      · rfl
      · rename_i h3
        rw [if_neg h3] at h
        split
        · rfl
        · rename_i h4
          rw [if_neg h4] at h
          split
          · rfl
          · rename_i h5
            rw [if_neg h5] at h
            simp at h
/-- So many numbers: they, what is behind, the error. -/
def numsF : Nat → List UInt8 → List Int × List UInt8 × Int
  | 0, s => ([], s, 0)
  | m + 1, s => if (tkN s).2.2 = 0 then ((tkN s).1 :: (numsF m (tkN s).2.1).1, (numsF m (tkN s).2.1).2) else ([(tkN s).1], (tkN s).2.1, (tkN s).2.2)
/-- What the loop has still to do. -/
def numsE (E : Int) (m : Nat) (s : List UInt8) : List Int × List UInt8 × Int := if E = 0 then numsF m s else ([], s, E)
/-- A manifest's numbers read off a payload: the number, the segments, whether it is right. -/
def ldP (P R : List UInt8) (E : Int) : Int × List Int × Bool :=
  ((tkN P).1, (numsE (andE (andE E (tkN P).2.2) (tkN (tkN P).2.1).2.2) (tkN (tkN P).2.1).1.toNat (tkN (tkN P).2.1).2.1).1,
    decide ((numsE (andE (andE E (tkN P).2.2) (tkN (tkN P).2.1).2.2) (tkN (tkN P).2.1).1.toNat (tkN (tkN P).2.1).2.1).2.2 = 0) &&
    decide ((numsE (andE (andE E (tkN P).2.2) (tkN (tkN P).2.1).2.2) (tkN (tkN P).2.1).1.toNat (tkN (tkN P).2.1).2.1).2.1 = []) && decide (R = []) &&
    rightB (tkN P).1 (numsE (andE (andE E (tkN P).2.2) (tkN (tkN P).2.1).2.2) (tkN (tkN P).2.1).1.toNat (tkN (tkN P).2.1).2.1).1)
def ldF (s : List UInt8) : Int × List Int × Bool := ldP (tkF crcU s).1 (tkF crcU s).2.1 (tkF crcU s).2.2
theorem ownNe {α : Type} {w : World} {base : Nat} {e T : TypeId} {size : Nat} {enc : α → List Value} {v : Value} {l : List α} {b : Nat} {cs : Array Value} {fr : Nat × Nat} (h : Go.Bl.Own w base e size enc v l) (hb : w.heap[b]? = some (.cells cs T fr)) (hT : T ≠ e) : v.ownBlock ≠ some b := by
  intro hv
  rcases h.2 with ⟨rfl, _⟩ | ⟨g, cap, cur, rfl, _, hg, _⟩
  · simp [Value.ownBlock] at hv
  · simp [Value.ownBlock] at hv
    subst hv
    rw [hg] at hb
    simp at hb
    exact hT hb.2.1.symm
/-- Amid Load: its result's cell, the boxes of what is left and of the first error. -/
structure Ld (w0 w : World) (b0 be bl : Nat) (L : List UInt8) (E : Int) : Prop where
  past : Below w0.heap.size w0 w
  res : w.heap[b0]? = some (.cells #[.int .i64 0, .slice none 0 0] 39 (0, 0))
  left : w.heap[bl]? = some (.cells #[.string (Bl L)] 9 (0, 0))
  err : w.heap[be]? = some (.cells #[.int .i64 E] 30 (0, 0))
  g0 : w0.heap.size ≤ b0
  g1 : w0.heap.size ≤ be
  g2 : w0.heap.size ≤ bl
section
variable {w0 w w' : World} {b0 be bl : Nat} {L : List UInt8} {E : Int}
theorem Ld.lt0 (h : Ld w0 w b0 be bl L E) : b0 < w.heap.size := (Array.getElem?_eq_some_iff.1 h.res).1
theorem Ld.lt1 (h : Ld w0 w b0 be bl L E) : be < w.heap.size := (Array.getElem?_eq_some_iff.1 h.err).1
theorem Ld.lt2 (h : Ld w0 w b0 be bl L E) : bl < w.heap.size := (Array.getElem?_eq_some_iff.1 h.left).1
theorem Ld.ne01 (h : Ld w0 w b0 be bl L E) : b0 ≠ be := fun e => by have := h.res; rw [e, h.err] at this; simp at this
theorem Ld.ne02 (h : Ld w0 w b0 be bl L E) : b0 ≠ bl := fun e => by have := h.res; rw [e, h.left] at this; simp at this
theorem Ld.fresh (h : Ld w0 w b0 be bl L E) (hB : Below w.heap.size w w') : Ld w0 w' b0 be bl L E :=
  ⟨h.past.trans (hB.mono h.past.size), (hB.block _ h.lt0).trans h.res, (hB.block _ h.lt2).trans h.left, (hB.block _ h.lt1).trans h.err, h.g0, h.g1, h.g2⟩
theorem Ld.other {G : Nat → Prop} (h : Ld w0 w b0 be bl L E) (hk : Keeps G w w') (hG : ∀ k, G k → w0.heap.size ≤ k ∧ k ≠ b0 ∧ k ≠ be ∧ k ≠ bl) : Ld w0 w' b0 be bl L E :=
  ⟨h.past.trans (hk.below h.past.size (fun k hk => (hG k hk).1)), hk.grownTo h.res (fun e => (hG _ e).2.1 rfl), hk.grownTo h.left (fun e => (hG _ e).2.2.2 rfl), hk.grownTo h.err (fun e => (hG _ e).2.2.1 rfl), h.g0, h.g1, h.g2⟩
theorem Ld.take (h : Ld w0 w b0 be bl L E) (hL : L.length ≤ 1000000000000) : Calls Tryd.prog 32 #[.pointer (some ⟨bl, 0, none⟩), .pointer (some ⟨be, 0, none⟩)] w fun e w' => e = .returned (.int .i64 (tkN L).1) ∧ Ld w0 w' b0 be bl (tkN L).2.1 (andE E (tkN L).2.2) ∧ Keeps (fun k => k = bl ∨ k = be) w w' := by
  refine (load1_any w bl be L E h.left h.err hL).mono ?_
  rintro e w' ⟨rfl, h1, h2, hk⟩
  exact ⟨rfl, ⟨h.past.trans (hk.below h.past.size (fun k e => by rcases e with rfl | rfl; exact h.g2; exact h.g1)), hk.grownTo h.res (fun e => e.elim h.ne02 h.ne01), h1, h2, h.g0, h.g1, h.g2⟩, hk⟩
end
/-- What Load tells. -/
def LdPost (D : Int × List Int × Bool) (w : World) (e : Ending) (w' : World) : Prop :=
  (if D.2.2 = true then ∃ v, e = .returned (.tuple #[.agg #[.int .i64 D.1, v], .int .i64 0]) ∧ Sl w' (fun k => w.heap.size ≤ k) 1 intc v D.2.1
    else e = .returned (.tuple #[.agg #[.int .i64 0, .slice none 0 0], .int .i64 2])) ∧ Below w.heap.size w w'
set_option maxRecDepth 8000 in
set_option maxHeartbeats 4000000 in
theorem loadSome {X : Nat → Prop} {w : World} {p : Nat} {d : Dk} (h : Qd X w p d) (f : Fl) (hf : d.find sFile = some f) : Calls Tryd.prog 15 #[.pointer (some ⟨p, 0, none⟩)] w (LdPost (ldF (Lb f.bytes)) w) := by
  have hr : readV (d.find ⟨#[109, 97, 110, 105, 102, 101, 115, 116]⟩) = .tuple #[.string f.bytes, .int .i64 0] := by rw [show (⟨#[109, 97, 110, 105, 102, 101, 115, 116]⟩ : ByteArray) = sFile from rfl, hf]; rfl
  have hsz : f.bytes.size ≤ 1073741824 := by
    have h1 := total_mem (find_some hf).1
    have h2 := h.ok.used
    have h3 := h.ok.room2
    omega
  have hft := fun W => frameTake_any W f.bytes (by omega)
  have hpl : (tkF crcU (Lb f.bytes)).1.length ≤ 8000 := by
    by_cases e : (tkF crcU (Lb f.bytes)).2.2 = 0
    · exact (tkF_len crcU (tkF_eta crcU e)).2.2
    · rw [tkF_bad e]; decide
  obtain ⟨P, hP⟩ : ∃ P, P = (tkF crcU (Lb f.bytes)).1 := ⟨_, rfl⟩
  obtain ⟨R, hR⟩ : ∃ P, P = (tkF crcU (Lb f.bytes)).2.1 := ⟨_, rfl⟩
  obtain ⟨E, hE⟩ : ∃ P, P = (tkF crcU (Lb f.bytes)).2.2 := ⟨_, rfl⟩
  have HL0 : Hid (ldF (Lb f.bytes) = ldP P R E) := Lib.hid (by unfold ldF; rw [← hP, ← hR, ← hE])
  rw [← hP, ← hR, ← hE] at hft
  rw [← hP] at hpl
  obtain ⟨D, hD⟩ : ∃ D, D = ldF (Lb f.bytes) := ⟨_, rfl⟩
  rw [← hD] at HL0 ⊢
  have HFT := Lib.hid hft
  have HR := Lib.hid hr
  have H := Lib.hid h
  have hB0 : Below w.heap.size w (w.alloc (.cells #[.int .i64 0, .slice none 0 0] 39)) := (Below.refl _ w).alloc (Nat.le_refl _) _
  have hblk := heap_alloc_new w (.cells #[.int .i64 0, .slice none 0 0] 39)
  have HB0 := Lib.hid hB0
  have HBK := Lib.hid hblk
  clear hft hP hR hE hr h hf hB0 hblk hD
  go_enter Tryd.func15, Tryd.ntmps15
  go_upto_region 1 with (fail)
  obtain ⟨b0, hb0⟩ : ∃ b, w.heap.size = b := ⟨_, rfl⟩
  have hQ1 := H.out.fresh HB0.out
  rw [hb0] at HB0 HBK ⊢
  generalize w.alloc (.cells #[.int .i64 0, .slice none 0 0] 39) = w1 at HB0 HBK hQ1 ⊢
  go_wp2_with fail
  refine (readQ hQ1 ⟨#[109, 97, 110, 105, 102, 101, 115, 116]⟩ (by decide)).mono ?_
  rintro e w1' ⟨rfl, rfl⟩
  rw [HR.out]
  go_upto_region 4 with (fail)
  have hB1 : Below b0 w (w1.alloc (.cells #[.int .i64 0] 30)) := HB0.out.alloc (by have := HB0.out.size; omega) _
  have hE1 := heap_alloc_new w1 (.cells #[.int .i64 0] 30)
  have hb0l := (Array.getElem?_eq_some_iff.1 HBK.out).1
  have hR1 : (w1.alloc (.cells #[.int .i64 0] 30)).heap[b0]? = _ := (Below.heap_alloc w1 _ b0 hb0l).trans HBK.out
  obtain ⟨be, hbe⟩ : ∃ b, w1.heap.size = b := ⟨_, rfl⟩
  rw [hbe] at hE1 hb0l ⊢
  generalize w1.alloc (.cells #[.int .i64 0] 30) = w2 at hB1 hE1 hR1 ⊢
  have HE1 := Lib.hid hE1
  have HR1 := Lib.hid hR1
  have HB1 := Lib.hid hB1
  have hgb : b0 ≤ w2.heap.size := by have := hB1.size; omega
  have hbel := (Array.getElem?_eq_some_iff.1 hE1).1
  clear hQ1 hE1 hR1 hB1 hbe HB0 HBK
  go_wp2_with fail
  refine (HFT.out _).mono ?_
  rintro e w3 ⟨rfl, hB3⟩
  have hE3 := (hB3.block be hbel).trans HE1.out
  have hR3 := (hB3.block b0 (Nat.lt_trans hb0l hbel)).trans HR1.out
  have hB13 := HB1.out.trans (hB3.mono hgb)
  have hgb3 := hB3.size
  have k0 := heap_alloc_new w3 (.cells #[.string (Bl P)] 9)
  have k1 : (w3.alloc (.cells #[.string (Bl P)] 9)).heap[be]? = _ := (Below.heap_alloc w3 _ be (Array.getElem?_eq_some_iff.1 hE3).1).trans hE3
  have k2 : (w3.alloc (.cells #[.string (Bl P)] 9)).heap[b0]? = _ := (Below.heap_alloc w3 _ b0 (Array.getElem?_eq_some_iff.1 hR3).1).trans hR3
  have k3 : Below b0 w (w3.alloc (.cells #[.string (Bl P)] 9)) := hB13.alloc (by omega) _
  have K0 := Lib.hid k0
  have K1 := Lib.hid k1
  have K2 := Lib.hid k2
  have K3 := Lib.hid k3
  have c0 : (w3.alloc (.cells #[.string (Bl P)] 9)).cell? ⟨be, 0, none⟩ = some (.int .i64 0) := cell_of_row _ be 0 _ _ _ k1
  have f0 : (w3.alloc (.cells #[.string (Bl P)] 9)).frozen? ⟨be, 0, none⟩ = false := frozen_block k1 0
  clear hB3 hE3 hR3 hB13 k0 k1 k2 k3
  go_upto_region 5 with (fail)
  have q1 := setCell_block (o := 0) K1.out (.int .i64 E)
  have qk := Keeps.one (w3.alloc (.cells #[.string (Bl P)] 9)) be 0 (.int .i64 E)
  have hld : Ld w ((w3.alloc (.cells #[.string (Bl P)] 9)).setCell ⟨be, 0, none⟩ (.int .i64 E)) b0 be w3.heap.size P E :=
    ⟨by rw [hb0]; exact K3.out.setCell (p := ⟨be, 0, none⟩) (Nat.le_of_lt hb0l) _, qk.grownTo K2.out (fun e => by omega), qk.grownTo K0.out (fun e => by omega), q1, Nat.le_of_eq hb0, by omega, by omega⟩
  generalize (w3.alloc (.cells #[.string (Bl P)] 9)).setCell ⟨be, 0, none⟩ (.int .i64 E) = w4 at hld ⊢
  obtain ⟨bl, hbl⟩ : ∃ b, w3.heap.size = b := ⟨_, rfl⟩
  rw [hbl] at hld ⊢
  have HLD := Lib.hid hld
  clear q1 qk hld K0 K1 K2 K3 c0 f0 HE1 HR1 HB1 hbel hgb hgb3 hbl hb0l HFT HR hb0
  go_wp2_with fail
  refine (HLD.out.take (by omega)).mono ?_
  rintro e w5 ⟨rfl, h5, _⟩
  have H5 := Lib.hid h5
  have hl5 := (tkN_bd P).2.2.2.2
  have hn5 := tkN_bd P
  have hn6 := tkN_bd (tkN P).2.1
  clear h5 HLD
  obtain ⟨n, hn⟩ : ∃ n, n = (tkN P).1 := ⟨_, rfl⟩
  obtain ⟨L1, hL1⟩ : ∃ n, n = (tkN P).2.1 := ⟨_, rfl⟩
  obtain ⟨E1, hE1⟩ : ∃ n, n = andE E (tkN P).2.2 := ⟨_, rfl⟩
  have HD1 : Hid (D = (n, (numsE (andE E1 (tkN L1).2.2) (tkN L1).1.toNat (tkN L1).2.1).1, decide ((numsE (andE E1 (tkN L1).2.2) (tkN L1).1.toNat (tkN L1).2.1).2.2 = 0) && decide ((numsE (andE E1 (tkN L1).2.2) (tkN L1).1.toNat (tkN L1).2.1).2.1 = []) && decide (R = []) && rightB n (numsE (andE E1 (tkN L1).2.2) (tkN L1).1.toNat (tkN L1).2.1).1)) := Lib.hid (by rw [HL0.out, hE1, hL1, hn]; rfl)
  rw [← hL1, ← hE1] at H5
  rw [← hn, ← hL1] at hn5
  rw [← hL1] at hl5 hn6
  rw [← hn]
  clear hn hL1 hE1 HL0
  go_upto_region 7 with (fail)
  have h6 := H5.out.fresh ((Below.refl _ w5).alloc (Nat.le_refl _) (.cells #[.int .i64 n, .slice none 0 0] 39))
  have hm6 := heap_alloc_new w5 (.cells #[.int .i64 n, .slice none 0 0] 39)
  have hbm : w.heap.size ≤ w5.heap.size ∧ w5.heap.size ≠ b0 ∧ w5.heap.size ≠ be ∧ w5.heap.size ≠ bl := ⟨H5.out.past.size, Nat.ne_of_gt H5.out.lt0, Nat.ne_of_gt H5.out.lt1, Nat.ne_of_gt H5.out.lt2⟩
  generalize w5.alloc (.cells #[.int .i64 n, .slice none 0 0] 39) = w6 at h6 hm6 ⊢
  obtain ⟨bm, hbmm⟩ : ∃ b, w5.heap.size = b := ⟨_, rfl⟩
  rw [hbmm] at hm6 hbm ⊢
  have H6 := Lib.hid h6
  have HM6 := Lib.hid hm6
  obtain ⟨hbm0, hbm1, hbm2, hbm3⟩ := hbm
  clear h6 hm6 hbmm H5
  go_wp2_with fail
  refine (H6.out.take (by omega)).mono ?_
  rintro e w7 ⟨rfl, h7, hk7⟩
  have H7 := Lib.hid h7
  have HM7 := Lib.hid (hk7.grownTo HM6.out (fun e => by omega))
  clear h7 hk7 H6 HM6
  obtain ⟨m, hm⟩ : ∃ n, n = (tkN L1).1 := ⟨_, rfl⟩
  obtain ⟨L2, hL2⟩ : ∃ n, n = (tkN L1).2.1 := ⟨_, rfl⟩
  obtain ⟨E2, hE2⟩ : ∃ n, n = andE E1 (tkN L1).2.2 := ⟨_, rfl⟩
  have hL28 : L2.length ≤ 8000 := by rw [hL2]; omega
  have hm0 : 0 ≤ m ∧ m ≤ 1099511627776 := by rw [hm]; exact ⟨hn6.1, hn6.2.1⟩
  rw [← hL2, ← hE2] at H7
  rw [← hm, ← hL2, ← hE2] at HD1
  rw [← hm]
  obtain ⟨M, hM⟩ : ∃ M : Nat, m = (M : Int) := ⟨m.toNat, by omega⟩
  subst hM
  rw [show ((M : Int)).toNat = M from rfl] at HD1
  clear hm hL2 hE2 hn6
  go_wp2_with fail
  go_loopw [11] (fun i wr => ∃ (k : Nat) (l : List Int) (L : List UInt8) (F : Int) (v : Value), k ≤ M ∧ l.length = k ∧ i = .int .i64 k ∧ Ld w wr b0 be bl L F ∧ wr.heap[bm]? = some (.cells #[.int .i64 n, v] 39 (0, 0)) ∧ Go.Bl.Own wr w.heap.size 3 1 intc v l ∧ l.length + L.length ≤ 8001 ∧ (F = 0 → l.length + L.length ≤ 8000) ∧ Hid (numsE E2 M L2 = (l ++ (numsE F (M - k) L).1, (numsE F (M - k) L).2))) (fun i _ => M - (intOf i).toNat)
  case atStart => exact ⟨0, [], L2, E2, .slice none 0 0, Nat.zero_le _, rfl, rfl, H7.out, HM7.out, Go.Bl.Own.nil_ _ _ _ _ _, by simp; omega, fun _ => by simp; omega, Lib.hid rfl⟩
  case round =>
    obtain ⟨k, l, L, F, v, hk, hlk, rfl, hLd, hbk, hO, hl1, hl2, hN⟩ := hrel
    have HLd := Lib.hid hLd
    have HBK := Lib.hid hbk
    have HO := Lib.hid hO
    have HLK := Lib.hid hlk
    have HL2 := Lib.hid hl2
    have c1 : wr.cell? ⟨be, 0, none⟩ = some (.int .i64 F) := cell_of_row wr be 0 _ _ _ hLd.err
    clear hLd hbk hO hlk H7 HM7 hl2
    by_cases hlt : k < M
    · have d0 : decide ((k : Int) < (M : Int)) = true := by simp; omega
      by_cases hF : F = 0
      · subst hF
        have hl8 := HL2.out rfl
        have hbd := tkN_bd L
        have m1 : wr.cell? ⟨bm, 1, none⟩ = some v := cell_of_row wr bm 1 _ _ _ HBK.out
        have hown := ownNe HO.out HBK.out (by decide)
        have HOW := Lib.hid hown
        clear hown
        go_wp2_with fail
        have HLw : Hid (Ld w wr.drew b0 be bl L 0) := Lib.hid (HLd.out.fresh (w' := wr.drew) ⟨rfl, rfl, rfl, Nat.le_refl _, fun _ _ => rfl⟩)
        have hbml := lt_of_cell m1
        have HOd : Hid (Go.Bl.Own wr.drew w.heap.size 3 1 intc v l) := Lib.hid HO.out
        have HBKd : Hid (wr.drew.heap[bm]? = some (.cells #[.int .i64 n, v] 39 (0, 0))) := Lib.hid HBK.out
        have HOl := Lib.hid (ownNe HO.out HLd.out.left (by decide))
        have HOe := Lib.hid (ownNe HO.out HLd.out.err (by decide))
        refine wp_region_noPanic ?_
        refine region_loads 5 2 (fun x => x.cell? ⟨bm, 1, none⟩ = some v) (by kernel_rfl) (by kernel_rfl) (fun _ _ _ _ h => h) m1 ⟨.pointer (some ⟨bm, 1, none⟩), .inl ⟨rfl, fun x hx => by go_simp⟩, v, .inl ⟨rfl, fun x hx => by go_simp⟩, rfl⟩ ?_
        simp only [List.drop_succ_cons, List.drop_zero]
        refine wpListS_step (fun K hK => ?_)
        go_simp
        refine hK _ _ (fun _ => m1) ?_
        clear hK K
        refine wpListS_step (fun K hK => ?_)
        go_simp
        refine (HLw.out.take (by omega)).mono ?_
        rintro e w8 ⟨rfl, h8, hk8⟩
        have m2 : w8.cell? ⟨bm, 1, none⟩ = some v := (hk8.cell (a := ⟨bm, 1, none⟩) hbml (fun e => e.elim hbm3 hbm2)).trans m1
        have H8 := Lib.hid h8
        have HO8 := Lib.hid (HOd.out.keep hk8 (fun b e e2 => e2.elim (fun e2 => HOl.out (e2 ▸ e)) (fun e2 => HOe.out (e2 ▸ e))))
        have HBK8 := Lib.hid (hk8.grownTo HBKd.out (fun e => e.elim hbm3 hbm2))
        have hz8 := h8.past.size
        have hbm8 := lt_of_cell m2
        refine hK _ _ (fun _ => m2) ?_
        clear hK K h8 hk8
        refine wpListS_step (fun K hK => ?_)
        go_simp
        have HB8 := Lib.hid ((Below.refl _ w8).alloc (Nat.le_refl _) (.cells #[.int .i64 (tkN L).1] 3))
        refine hK _ _ (fun _ => (HB8.out.cell (p := ⟨bm, 1, none⟩) hbm8).trans m2) ?_
        clear hK K
        refine wpListS_late (Nat.le_refl _) ?_
        have HBK9 := Lib.hid (HB8.out.block bm hbm8 |>.trans HBK8.out)
        go_wp2_with (at_builtin; refine elIntM.append _ (by rfl) _ _ rfl w.heap.size v l rfl (HO8.out.fresh HB8.out) _ _ [(tkN L).1] rfl (Sl.single (heap_alloc_new _ _) rfl) ?_ ?_ ?_; (simp; omega); (simp; omega); intro v' w9 hown9 hg9 hat9; obtain ⟨A9, c9, rfl, hA91, hA92⟩ := hown9.shape_ (n := l.length + 1) (by rw [List.length_append, List.length_singleton]); have hbk9 := (Keeps.of_grown hg9).grownTo HBK9.out (fun e => HOW.out e); have m3 : w9.cell? ⟨bm, 1, none⟩ = some v := cell_of_row w9 bm 1 _ _ _ hbk9; have f3 : w9.frozen? ⟨bm, 1, none⟩ = false := frozen_block hbk9 1; have H9 := Lib.hid hown9; have HG9 := Lib.hid hg9; have HBK10 := Lib.hid hbk9; clear hown9 hg9 hbk9)
        refine NoPanic.normal ?_
        have hN2 : Hid (numsE E2 M L2 = ((l ++ [(tkN L).1]) ++ (numsE (andE 0 (tkN L).2.2) (M - (k + 1)) (tkN L).2.1).1, (numsE (andE 0 (tkN L).2.2) (M - (k + 1)) (tkN L).2.1).2)) := Lib.hid (by
          rw [hN.out, show andE 0 (tkN L).2.2 = (tkN L).2.2 from rfl]
          have e1 : numsE 0 (M - k) L = numsF ((M - (k + 1)) + 1) L := by rw [show M - k = (M - (k + 1)) + 1 by omega]; rfl
          rw [e1]
          unfold numsF numsE
          by_cases e2 : (tkN L).2.2 = 0
          · rw [if_pos e2, if_pos e2]; simp
          · rw [if_neg e2, if_neg e2]; simp)
        have hless := fun e => tkN_less (s := L) e
        have HLE := Lib.hid hless
        have hbd5 := hbd.2.2.2.2
        have HOr := Lib.hid (ownNe HO.out HLd.out.res (by decide))
        have hLd9 : Ld w (w9.setCell ⟨bm, 1, none⟩ (.slice A9 (l.length + 1) c9)) b0 be bl (tkN L).2.1 (andE 0 (tkN L).2.2) :=
          ((H8.out.fresh HB8.out).other (Keeps.of_grown HG9.out) (fun q e => ⟨(HO8.out.lt q e |>.1), fun e2 => HOr.out (e2 ▸ e), fun e2 => HOe.out (e2 ▸ e), fun e2 => HOl.out (e2 ▸ e)⟩)).other (Keeps.one w9 bm 1 _) (fun q e => by subst e; exact ⟨hbm0, hbm1, hbm2, hbm3⟩)
        have hbk11 := setCell_block (o := 1) HBK10.out (.slice A9 (l.length + 1) c9)
        have hO11 : Go.Bl.Own (w9.setCell ⟨bm, 1, none⟩ (.slice A9 (l.length + 1) c9)) w.heap.size 3 1 intc (.slice A9 (l.length + 1) c9) (l ++ [(tkN L).1]) := H9.out.keep (Keeps.one w9 bm 1 _) (fun q e e2 => ownNe H9.out HBK10.out (by decide) (e2 ▸ e))
        have HLD9 := Lib.hid hLd9
        have HBK11 := Lib.hid hbk11
        have HO11 := Lib.hid hO11
        generalize w9.setCell ⟨bm, 1, none⟩ (.slice A9 (l.length + 1) c9) = w10 at HLD9 HBK11 HO11 ⊢
        clear hless hLd9 hbk11 hO11 m1 m2 m3 f3 hbd c1
        go_wp2_with fail
        go_roundw
        case rel => exact ⟨k + 1, l ++ [(tkN L).1], (tkN L).2.1, andE 0 (tkN L).2.2, .slice A9 (l.length + 1) c9, by omega, by rw [List.length_append, List.length_singleton, HLK.out], by go_num, HLD9.out, HBK11.out, HO11.out, by rw [List.length_append, List.length_singleton]; omega, fun e => by have := HLE.out e; rw [List.length_append, List.length_singleton]; omega, hN2⟩
        case measure => simp [intOf]; omega
      · have dF : (F == 0) = false := by rw [beq_eq_false_iff_ne]; exact hF
        have hr : Hid (numsE F (M - k) L = ([], L, F)) := Lib.hid (if_neg hF)
        have HF := Lib.hid hF
        clear hF
        have HDD : Hid (D = (n, l, decide (F = 0) && decide (L = []) && decide (R = []) && rightB n l)) := Lib.hid (by rw [HD1.out, hN.out, hr.out]; simp only [List.append_nil])
        have r0 : wr.cell? ⟨b0, 0, none⟩ = some (.int .i64 0) := cell_of_row wr b0 0 _ _ _ HLd.out.res
        have r1 : wr.cell? ⟨b0, 1, none⟩ = some (.slice none 0 0) := cell_of_row wr b0 1 _ _ _ HLd.out.res
        have s0 : wr.frozen? ⟨b0, 0, none⟩ = false := frozen_block HLd.out.res 0
        have s1 : wr.frozen? ⟨b0, 1, none⟩ = false := frozen_block HLd.out.res 1
        have cl : wr.cell? ⟨bl, 0, none⟩ = some (.string (Bl L)) := cell_of_row wr bl 0 _ _ _ HLd.out.left
        have m0 : wr.cell? ⟨bm, 0, none⟩ = some (.int .i64 n) := cell_of_row wr bm 0 _ _ _ HBK.out
        have m1 : wr.cell? ⟨bm, 1, none⟩ = some v := cell_of_row wr bm 1 _ _ _ HBK.out
        have heL := empty_of (l := L)
        have heR := empty_of (l := R)
        clear hr hN HD1
        by_cases gF : F = 0
        · by_cases gL : L = []
          · rw [decide_eq_true gL] at heL
            by_cases gR : R = []
            · rw [decide_eq_true gR] at heR
              have hri := right_any wr n v l _ (HO.out.sl elIntM.len)
              cases hR : rightB n l
              · have HX : Hid (D.2.2 = false) := Lib.hid (by rw [HDD.out, hR, Bool.and_false])
                rw [hR] at hri
                have HRI := Lib.hid hri
                have GF := Lib.hid gF
                have d9 : (F != 0) = false := by rw [gF]; decide
                clear gF gL gR hR hri
                go_wp2_with fail
                refine HRI.out.mono ?_
                rintro e w8 ⟨rfl, hB8⟩
                have h8 := HLd.out.fresh hB8
                have r0 : w8.cell? ⟨b0, 0, none⟩ = some (.int .i64 0) := cell_of_row w8 b0 0 _ _ _ h8.res
                have r1 : w8.cell? ⟨b0, 1, none⟩ = some (.slice none 0 0) := cell_of_row w8 b0 1 _ _ _ h8.res
                have s0 : w8.frozen? ⟨b0, 0, none⟩ = false := frozen_block h8.res 0
                have s1 : w8.frozen? ⟨b0, 1, none⟩ = false := frozen_block h8.res 1
                have H8 := Lib.hid h8
                clear h8 hB8
                go_wp2_with fail
                have k1 := setCell_block (o := 0) H8.out.res (.int .i64 0)
                have k2 := setCell_block (o := 1) k1 (.slice none 0 0)
                have q0 := cell_of_row _ b0 0 _ _ _ k2
                have q1 := cell_of_row _ b0 1 _ _ _ k2
                have hp := (H8.out.past.setCell (p := ⟨b0, 0, none⟩) H8.out.g0 (.int .i64 0)).setCell (p := ⟨b0, 1, none⟩) H8.out.g0 (.slice none 0 0)
                generalize (w8.setCell ⟨b0, 0, none⟩ (.int .i64 0)).setCell ⟨b0, 1, none⟩ (.slice none 0 0) = w9 at k2 q0 q1 hp ⊢
                refine bodyPost_ret (v := .tuple #[.agg #[.int .i64 0, .slice none 0 0], .int .i64 2]) (by simp [results, Tryd.results15, go_sem, q0, q1]) rfl ⟨?_, hp⟩
                rw [if_neg (by rw [HX.out]; decide)]
              · have HX : Hid (D.2.2 = true) := Lib.hid (by rw [HDD.out, hR, decide_eq_true gF, decide_eq_true gL, decide_eq_true gR]; rfl)
                have HX1 : Hid (D.1 = n ∧ D.2.1 = l) := Lib.hid (by rw [HDD.out]; exact ⟨rfl, rfl⟩)
                rw [hR] at hri
                have HRI := Lib.hid hri
                have d9 : (F != 0) = false := by rw [gF]; decide
                have GF := Lib.hid gF
                clear gF gL gR hR hri
                obtain ⟨A, c, rfl, hA1, hA2⟩ := HO.out.shape_ rfl
                go_wp2_with fail
                refine HRI.out.mono ?_
                rintro e w8 ⟨rfl, hB8⟩
                have h8 := HLd.out.fresh hB8
                have m0 := (hB8.cell (p := ⟨bm, 0, none⟩) (lt_of_cell m0)).trans m0
                have m1 := (hB8.cell (p := ⟨bm, 1, none⟩) (lt_of_cell m1)).trans m1
                have r0 : w8.cell? ⟨b0, 0, none⟩ = some (.int .i64 0) := cell_of_row w8 b0 0 _ _ _ h8.res
                have r1 : w8.cell? ⟨b0, 1, none⟩ = some (.slice none 0 0) := cell_of_row w8 b0 1 _ _ _ h8.res
                have s0 : w8.frozen? ⟨b0, 0, none⟩ = false := frozen_block h8.res 0
                have s1 : w8.frozen? ⟨b0, 1, none⟩ = false := frozen_block h8.res 1
                have HO8 := Lib.hid (HO.out.fresh hB8)
                have H8 := Lib.hid h8
                clear h8 hB8
                go_wp2_with fail
                have k1 := setCell_block (o := 0) H8.out.res (.int .i64 n)
                have k2 := setCell_block (o := 1) k1 (.slice A l.length c)
                have q0 := cell_of_row _ b0 0 _ _ _ k2
                have q1 := cell_of_row _ b0 1 _ _ _ k2
                have hp := (H8.out.past.setCell (p := ⟨b0, 0, none⟩) H8.out.g0 (.int .i64 n)).setCell (p := ⟨b0, 1, none⟩) H8.out.g0 (.slice A l.length c)
                have hk9 := (Keeps.one w8 b0 0 (.int .i64 n)).trans (Keeps.one _ b0 1 (.slice A l.length c))
                have hO9 := HO8.out.keep hk9 (fun b e e2 => ownNe HO8.out H8.out.res (by decide) (e2 ▸ e))
                have hs9 := (hO9.sl elIntM.len).mono (F' := fun k => w.heap.size ≤ k) (fun k _ e => (hO9.lt k e).1)
                generalize (w8.setCell ⟨b0, 0, none⟩ (.int .i64 n)).setCell ⟨b0, 1, none⟩ (.slice A l.length c) = w9 at k2 q0 q1 hp hs9 ⊢
                refine bodyPost_ret (v := .tuple #[.agg #[.int .i64 n, .slice A l.length c], .int .i64 0]) (by simp [results, Tryd.results15, go_sem, q0, q1]) rfl ⟨?_, hp⟩
                rw [if_pos HX.out, HX1.out.1, HX1.out.2]
                exact ⟨_, rfl, hs9⟩
            · have HX : Hid (D.2.2 = false) := Lib.hid (by rw [HDD.out, decide_eq_false gR, Bool.and_false, Bool.false_and])
              rw [decide_eq_false gR] at heR
              have d9 : (F != 0) = false := by rw [gF]; decide
              have GF := Lib.hid gF
              clear gF gL gR
              go_wp2_with fail
              have k1 := setCell_block (o := 0) HLd.out.res (.int .i64 0)
              have k2 := setCell_block (o := 1) k1 (.slice none 0 0)
              have q0 := cell_of_row _ b0 0 _ _ _ k2
              have q1 := cell_of_row _ b0 1 _ _ _ k2
              have hp := (HLd.out.past.setCell (p := ⟨b0, 0, none⟩) HLd.out.g0 (.int .i64 0)).setCell (p := ⟨b0, 1, none⟩) HLd.out.g0 (.slice none 0 0)
              generalize (wr.setCell ⟨b0, 0, none⟩ (.int .i64 0)).setCell ⟨b0, 1, none⟩ (.slice none 0 0) = w9 at k2 q0 q1 hp ⊢
              refine bodyPost_ret (v := .tuple #[.agg #[.int .i64 0, .slice none 0 0], .int .i64 2]) (by simp [results, Tryd.results15, go_sem, q0, q1]) rfl ⟨?_, hp⟩
              rw [if_neg (by rw [HX.out]; decide)]
          · have HX : Hid (D.2.2 = false) := Lib.hid (by rw [HDD.out, decide_eq_false gL, Bool.and_false, Bool.false_and, Bool.false_and])
            rw [decide_eq_false gL] at heL
            have d9 : (F != 0) = false := by rw [gF]; decide
            have GF := Lib.hid gF
            clear gF gL
            go_wp2_with fail
            have k1 := setCell_block (o := 0) HLd.out.res (.int .i64 0)
            have k2 := setCell_block (o := 1) k1 (.slice none 0 0)
            have q0 := cell_of_row _ b0 0 _ _ _ k2
            have q1 := cell_of_row _ b0 1 _ _ _ k2
            have hp := (HLd.out.past.setCell (p := ⟨b0, 0, none⟩) HLd.out.g0 (.int .i64 0)).setCell (p := ⟨b0, 1, none⟩) HLd.out.g0 (.slice none 0 0)
            generalize (wr.setCell ⟨b0, 0, none⟩ (.int .i64 0)).setCell ⟨b0, 1, none⟩ (.slice none 0 0) = w9 at k2 q0 q1 hp ⊢
            refine bodyPost_ret (v := .tuple #[.agg #[.int .i64 0, .slice none 0 0], .int .i64 2]) (by simp [results, Tryd.results15, go_sem, q0, q1]) rfl ⟨?_, hp⟩
            rw [if_neg (by rw [HX.out]; decide)]
        · have HX : Hid (D.2.2 = false) := Lib.hid (by rw [HDD.out, decide_eq_false gF, Bool.false_and, Bool.false_and, Bool.false_and])
          have d9 : (F != 0) = true := by simpa using gF
          have GF := Lib.hid gF
          clear gF
          go_wp2_with fail
          have k1 := setCell_block (o := 0) HLd.out.res (.int .i64 0)
          have k2 := setCell_block (o := 1) k1 (.slice none 0 0)
          have q0 := cell_of_row _ b0 0 _ _ _ k2
          have q1 := cell_of_row _ b0 1 _ _ _ k2
          have hp := (HLd.out.past.setCell (p := ⟨b0, 0, none⟩) HLd.out.g0 (.int .i64 0)).setCell (p := ⟨b0, 1, none⟩) HLd.out.g0 (.slice none 0 0)
          generalize (wr.setCell ⟨b0, 0, none⟩ (.int .i64 0)).setCell ⟨b0, 1, none⟩ (.slice none 0 0) = w9 at k2 q0 q1 hp ⊢
          refine bodyPost_ret (v := .tuple #[.agg #[.int .i64 0, .slice none 0 0], .int .i64 2]) (by simp [results, Tryd.results15, go_sem, q0, q1]) rfl ⟨?_, hp⟩
          rw [if_neg (by rw [HX.out]; decide)]
    · have d0 : decide ((k : Int) < (M : Int)) = false := by simp; omega
      have hr : Hid (numsE F (M - k) L = ([], L, F)) := Lib.hid (by
        rw [show M - k = 0 by omega]
        unfold numsE
        split
        · rename_i e; rw [e]; rfl
        · rfl)
      have HDD : Hid (D = (n, l, decide (F = 0) && decide (L = []) && decide (R = []) && rightB n l)) := Lib.hid (by rw [HD1.out, hN.out, hr.out]; simp only [List.append_nil])
      have r0 : wr.cell? ⟨b0, 0, none⟩ = some (.int .i64 0) := cell_of_row wr b0 0 _ _ _ HLd.out.res
      have r1 : wr.cell? ⟨b0, 1, none⟩ = some (.slice none 0 0) := cell_of_row wr b0 1 _ _ _ HLd.out.res
      have s0 : wr.frozen? ⟨b0, 0, none⟩ = false := frozen_block HLd.out.res 0
      have s1 : wr.frozen? ⟨b0, 1, none⟩ = false := frozen_block HLd.out.res 1
      have cl : wr.cell? ⟨bl, 0, none⟩ = some (.string (Bl L)) := cell_of_row wr bl 0 _ _ _ HLd.out.left
      have m0 : wr.cell? ⟨bm, 0, none⟩ = some (.int .i64 n) := cell_of_row wr bm 0 _ _ _ HBK.out
      have m1 : wr.cell? ⟨bm, 1, none⟩ = some v := cell_of_row wr bm 1 _ _ _ HBK.out
      have heL := empty_of (l := L)
      have heR := empty_of (l := R)
      clear hr hN HD1
      by_cases gF : F = 0
      · by_cases gL : L = []
        · rw [decide_eq_true gL] at heL
          by_cases gR : R = []
          · rw [decide_eq_true gR] at heR
            have hri := right_any wr n v l _ (HO.out.sl elIntM.len)
            cases hR : rightB n l
            · have HX : Hid (D.2.2 = false) := Lib.hid (by rw [HDD.out, hR, Bool.and_false])
              rw [hR] at hri
              have HRI := Lib.hid hri
              have GF := Lib.hid gF
              have d9 : (F != 0) = false := by rw [gF]; decide
              clear gF gL gR hR hri
              go_wp2_with fail
              refine HRI.out.mono ?_
              rintro e w8 ⟨rfl, hB8⟩
              have h8 := HLd.out.fresh hB8
              have r0 : w8.cell? ⟨b0, 0, none⟩ = some (.int .i64 0) := cell_of_row w8 b0 0 _ _ _ h8.res
              have r1 : w8.cell? ⟨b0, 1, none⟩ = some (.slice none 0 0) := cell_of_row w8 b0 1 _ _ _ h8.res
              have s0 : w8.frozen? ⟨b0, 0, none⟩ = false := frozen_block h8.res 0
              have s1 : w8.frozen? ⟨b0, 1, none⟩ = false := frozen_block h8.res 1
              have H8 := Lib.hid h8
              clear h8 hB8
              go_wp2_with fail
              have k1 := setCell_block (o := 0) H8.out.res (.int .i64 0)
              have k2 := setCell_block (o := 1) k1 (.slice none 0 0)
              have q0 := cell_of_row _ b0 0 _ _ _ k2
              have q1 := cell_of_row _ b0 1 _ _ _ k2
              have hp := (H8.out.past.setCell (p := ⟨b0, 0, none⟩) H8.out.g0 (.int .i64 0)).setCell (p := ⟨b0, 1, none⟩) H8.out.g0 (.slice none 0 0)
              generalize (w8.setCell ⟨b0, 0, none⟩ (.int .i64 0)).setCell ⟨b0, 1, none⟩ (.slice none 0 0) = w9 at k2 q0 q1 hp ⊢
              refine bodyPost_ret (v := .tuple #[.agg #[.int .i64 0, .slice none 0 0], .int .i64 2]) (by simp [results, Tryd.results15, go_sem, q0, q1]) rfl ⟨?_, hp⟩
              rw [if_neg (by rw [HX.out]; decide)]
            · have HX : Hid (D.2.2 = true) := Lib.hid (by rw [HDD.out, hR, decide_eq_true gF, decide_eq_true gL, decide_eq_true gR]; rfl)
              have HX1 : Hid (D.1 = n ∧ D.2.1 = l) := Lib.hid (by rw [HDD.out]; exact ⟨rfl, rfl⟩)
              rw [hR] at hri
              have HRI := Lib.hid hri
              have d9 : (F != 0) = false := by rw [gF]; decide
              have GF := Lib.hid gF
              clear gF gL gR hR hri
              obtain ⟨A, c, rfl, hA1, hA2⟩ := HO.out.shape_ rfl
              go_wp2_with fail
              refine HRI.out.mono ?_
              rintro e w8 ⟨rfl, hB8⟩
              have h8 := HLd.out.fresh hB8
              have m0 := (hB8.cell (p := ⟨bm, 0, none⟩) (lt_of_cell m0)).trans m0
              have m1 := (hB8.cell (p := ⟨bm, 1, none⟩) (lt_of_cell m1)).trans m1
              have r0 : w8.cell? ⟨b0, 0, none⟩ = some (.int .i64 0) := cell_of_row w8 b0 0 _ _ _ h8.res
              have r1 : w8.cell? ⟨b0, 1, none⟩ = some (.slice none 0 0) := cell_of_row w8 b0 1 _ _ _ h8.res
              have s0 : w8.frozen? ⟨b0, 0, none⟩ = false := frozen_block h8.res 0
              have s1 : w8.frozen? ⟨b0, 1, none⟩ = false := frozen_block h8.res 1
              have HO8 := Lib.hid (HO.out.fresh hB8)
              have H8 := Lib.hid h8
              clear h8 hB8
              go_wp2_with fail
              have k1 := setCell_block (o := 0) H8.out.res (.int .i64 n)
              have k2 := setCell_block (o := 1) k1 (.slice A l.length c)
              have q0 := cell_of_row _ b0 0 _ _ _ k2
              have q1 := cell_of_row _ b0 1 _ _ _ k2
              have hp := (H8.out.past.setCell (p := ⟨b0, 0, none⟩) H8.out.g0 (.int .i64 n)).setCell (p := ⟨b0, 1, none⟩) H8.out.g0 (.slice A l.length c)
              have hk9 := (Keeps.one w8 b0 0 (.int .i64 n)).trans (Keeps.one _ b0 1 (.slice A l.length c))
              have hO9 := HO8.out.keep hk9 (fun b e e2 => ownNe HO8.out H8.out.res (by decide) (e2 ▸ e))
              have hs9 := (hO9.sl elIntM.len).mono (F' := fun k => w.heap.size ≤ k) (fun k _ e => (hO9.lt k e).1)
              generalize (w8.setCell ⟨b0, 0, none⟩ (.int .i64 n)).setCell ⟨b0, 1, none⟩ (.slice A l.length c) = w9 at k2 q0 q1 hp hs9 ⊢
              refine bodyPost_ret (v := .tuple #[.agg #[.int .i64 n, .slice A l.length c], .int .i64 0]) (by simp [results, Tryd.results15, go_sem, q0, q1]) rfl ⟨?_, hp⟩
              rw [if_pos HX.out, HX1.out.1, HX1.out.2]
              exact ⟨_, rfl, hs9⟩
          · have HX : Hid (D.2.2 = false) := Lib.hid (by rw [HDD.out, decide_eq_false gR, Bool.and_false, Bool.false_and])
            rw [decide_eq_false gR] at heR
            have d9 : (F != 0) = false := by rw [gF]; decide
            have GF := Lib.hid gF
            clear gF gL gR
            go_wp2_with fail
            have k1 := setCell_block (o := 0) HLd.out.res (.int .i64 0)
            have k2 := setCell_block (o := 1) k1 (.slice none 0 0)
            have q0 := cell_of_row _ b0 0 _ _ _ k2
            have q1 := cell_of_row _ b0 1 _ _ _ k2
            have hp := (HLd.out.past.setCell (p := ⟨b0, 0, none⟩) HLd.out.g0 (.int .i64 0)).setCell (p := ⟨b0, 1, none⟩) HLd.out.g0 (.slice none 0 0)
            generalize (wr.setCell ⟨b0, 0, none⟩ (.int .i64 0)).setCell ⟨b0, 1, none⟩ (.slice none 0 0) = w9 at k2 q0 q1 hp ⊢
            refine bodyPost_ret (v := .tuple #[.agg #[.int .i64 0, .slice none 0 0], .int .i64 2]) (by simp [results, Tryd.results15, go_sem, q0, q1]) rfl ⟨?_, hp⟩
            rw [if_neg (by rw [HX.out]; decide)]
        · have HX : Hid (D.2.2 = false) := Lib.hid (by rw [HDD.out, decide_eq_false gL, Bool.and_false, Bool.false_and, Bool.false_and])
          rw [decide_eq_false gL] at heL
          have d9 : (F != 0) = false := by rw [gF]; decide
          have GF := Lib.hid gF
          clear gF gL
          go_wp2_with fail
          have k1 := setCell_block (o := 0) HLd.out.res (.int .i64 0)
          have k2 := setCell_block (o := 1) k1 (.slice none 0 0)
          have q0 := cell_of_row _ b0 0 _ _ _ k2
          have q1 := cell_of_row _ b0 1 _ _ _ k2
          have hp := (HLd.out.past.setCell (p := ⟨b0, 0, none⟩) HLd.out.g0 (.int .i64 0)).setCell (p := ⟨b0, 1, none⟩) HLd.out.g0 (.slice none 0 0)
          generalize (wr.setCell ⟨b0, 0, none⟩ (.int .i64 0)).setCell ⟨b0, 1, none⟩ (.slice none 0 0) = w9 at k2 q0 q1 hp ⊢
          refine bodyPost_ret (v := .tuple #[.agg #[.int .i64 0, .slice none 0 0], .int .i64 2]) (by simp [results, Tryd.results15, go_sem, q0, q1]) rfl ⟨?_, hp⟩
          rw [if_neg (by rw [HX.out]; decide)]
      · have HX : Hid (D.2.2 = false) := Lib.hid (by rw [HDD.out, decide_eq_false gF, Bool.false_and, Bool.false_and, Bool.false_and])
        have d9 : (F != 0) = true := by simpa using gF
        have GF := Lib.hid gF
        clear gF
        go_wp2_with fail
        have k1 := setCell_block (o := 0) HLd.out.res (.int .i64 0)
        have k2 := setCell_block (o := 1) k1 (.slice none 0 0)
        have q0 := cell_of_row _ b0 0 _ _ _ k2
        have q1 := cell_of_row _ b0 1 _ _ _ k2
        have hp := (HLd.out.past.setCell (p := ⟨b0, 0, none⟩) HLd.out.g0 (.int .i64 0)).setCell (p := ⟨b0, 1, none⟩) HLd.out.g0 (.slice none 0 0)
        generalize (wr.setCell ⟨b0, 0, none⟩ (.int .i64 0)).setCell ⟨b0, 1, none⟩ (.slice none 0 0) = w9 at k2 q0 q1 hp ⊢
        refine bodyPost_ret (v := .tuple #[.agg #[.int .i64 0, .slice none 0 0], .int .i64 2]) (by simp [results, Tryd.results15, go_sem, q0, q1]) rfl ⟨?_, hp⟩
        rw [if_neg (by rw [HX.out]; decide)]
end Go.Proofs.YthdehdlbocgfaaaDoor
