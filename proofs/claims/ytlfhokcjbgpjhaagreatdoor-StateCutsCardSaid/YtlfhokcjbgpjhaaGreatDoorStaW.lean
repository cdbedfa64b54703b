/- StateCuts: what the statement's function does: it answers true. Under the tables that utf8 lays. -/
import Derived.Test.YtlfhokcjbgpjhaaGreatDoorStaC
import Derived.Test.YtlfhokcjbgpjhaaGreatDoorStaE
import Derived.Test.YtlfhokcjbgpjhaaGreatDoorStaD
import Derived.Test.YtlfhokcjbgpjhaaGreatDoorRecR
import Derived.Test.YtlfhokcjbgpjhaaGreatDoorStaT
/- What the statements' loops 'e := l[i]; e.Pos = s.Applied() + 1; s.Apply(e)' keep. No condition. -/
namespace Go.Proofs.YtlfhokcjbgpjhaaGreatDoor
open Go.RowKit Go.Bl

/-- Entries played so far: w is where the arguments lie, I what is known of the state. -/
def PlayRel (I : St → Prop) (w : World) (p n : Nat) (i : Value) (wr : World) : Prop :=
  ∃ (k : Nat) (s : St) (F W : Nat → Prop), k ≤ n ∧ i = .int .i64 k ∧ StAt wr p s F W ∧ (∀ j, F j → w.heap.size ≤ j) ∧ I s ∧ s.L.length ≤ 8 * k ∧ s.T.length ≤ k ∧ (0 ≤ s.ap ∧ s.ap ≤ k) ∧ Below w.heap.size w wr
/-- An entry that stands at another place. -/
def Ent.at_ (a : Ent) (pos : Int) : Ent := { a with pos := pos }
theorem PlayRel.step {I : St → Prop} {w w2 w3 : World} {p n k : Nat} {s : St} {a : Ent} {F W : Nat → Prop} (hk : k < n) (hF : ∀ j, F j → w.heap.size ≤ j) (hB : Below w.heap.size w w2) (h2 : StAt w2 p s F W)
    (hI : I (applyS s a).1) (hL : s.L.length ≤ 8 * k) (hT : s.T.length ≤ k) (ha : 0 ≤ s.ap ∧ s.ap ≤ k) (h : Applied w2 w3 p (applyS s a).1 F W) {i : Value} (hi : i = .int .i64 ((k + 1 : Nat) : Int)) : PlayRel I w p n i w3 := by
  obtain ⟨W', h1, h3, hK⟩ := h
  obtain ⟨g1, g2, g3, _⟩ := apply_grows s a
  refine ⟨k + 1, _, _, W', hk, hi, h3, fun j hj => ?_, hI, by omega, by omega, by omega, ?_⟩
  · rcases hj with hj | hj
    · exact hF j hj
    · exact Nat.le_trans hB.size hj.1
  · exact Below.keep hB hK hB.size (fun j hj => hF j (h2.wf j hj))
theorem Applied.below {w w2 w3 : World} {p : Nat} {s s' : St} {F W : Nat → Prop} (h : Applied w2 w3 p s' F W) (hB : Below w.heap.size w w2) (h2 : StAt w2 p s F W) (hF : ∀ j, F j → w.heap.size ≤ j) :
    ∃ F' W', StAt w3 p s' F' W' ∧ (∀ j, F' j → w.heap.size ≤ j) ∧ (∀ k, W' k → W k ∨ w2.heap.size ≤ k) ∧ Keeps W w2 w3 ∧ Below w.heap.size w w3 := by
  obtain ⟨W', h1, h3, hK⟩ := h
  refine ⟨_, W', h3, fun j hj => ?_, h1, hK, Below.keep hB hK hB.size (fun j hj => hF j (h2.wf j hj))⟩
  rcases hj with hj | hj
  · exact hF j hj
  · exact Nat.le_trans hB.size hj.1

/-! ### What a state expects, in plain words -/
def exE (pos expect : Int) (v : Value) : Ent := ⟨pos, 1, ⟨#[115]⟩, expect, 137438953472, 137438953472, v, List.replicate 3 kEv⟩
theorem exE_right {pos expect : Int} (v : Value) (hp : 1 ≤ pos ∧ pos ≤ 100) (he : -1 ≤ expect ∧ expect ≤ 274877906944) : rightB (exE pos expect v) = true := by
  have hn : nameB ⟨#[115]⟩ = true := by kernel_rfl
  have hk : (List.replicate 3 kEv).any (fun e => !rightE e) = false := by kernel_rfl
  have hnum : numB 137438953472 = true := by decide
  have h1 : numB pos = true := by simp only [numB, Bool.and_eq_true, decide_eq_true_eq]; omega
  have h2 : numB 1 = true := by decide
  have hf : fitsI (exE pos expect v) = 0 := by
    unfold fitsI exE
    simp only [hn, hnum, hk]
    rw [if_neg (by decide), if_neg (by omega), if_neg (by decide), if_neg (by decide), if_neg (by decide), if_neg (by decide), if_neg (by decide)]
  simp only [rightB, hf]
  show (numB pos && (numB 1 && _)) = true
  rw [h1, h2]
  decide
theorem ofS_mk_same (es : List Ev) (s : ByteArray) (p : Int) : Idx.ofS (es.map (Idx.mkOne s p)) s = es.map fun e => (⟨p, e⟩ : Idx.Kp) := by
  induction es with
  | nil => rfl
  | cons e es ih =>
    simp only [List.map_cons]
    rw [show Idx.mkOne s p e :: es.map (Idx.mkOne s p) = [Idx.mkOne s p e] ++ es.map (Idx.mkOne s p) from rfl, Idx.ofS_append, ih]
    simp [Idx.ofS, Idx.mkOne, Idx.One.kp]
theorem ofS_mk_other (es : List Ev) {s t : ByteArray} (h : t ≠ s) (p : Int) : Idx.ofS (es.map (Idx.mkOne t p)) s = [] := by
  simp only [Idx.ofS, List.map_eq_nil_iff, List.filter_eq_nil_iff, List.mem_map]
  rintro o ⟨e, _, rfl⟩
  simp [Idx.mkOne, h]
/-- What is there of the stream behind a batch that is done. -/
theorem ofS_addS (s : St) (a : Ent) : Idx.ofS (addS s a) a.stream = Idx.ofS s.L a.stream ++ a.evs.map fun e => (⟨a.pos, e⟩ : Idx.Kp) := by
  rw [addS, Idx.ofS_append, ofS_mk_same]
theorem expects_done {s : St} {a : Ent} (hr : rightB a = true) (hp : a.pos = s.ap + 1) (hw : (Ded.lookL s.T a.session a.seq).2 = 0) :
    (applyS s a).2.2 = 0 ∧ ((a.expect = -1 ∨ a.expect = ((Idx.ofS s.L a.stream).length : Int)) → (applyS s a).2.1 = ⟨1, a.pos, (Idx.ofS s.L a.stream).length, (Idx.ofS s.L a.stream).length + a.evs.length⟩ ∧
      Idx.ofS (applyS s a).1.L a.stream = Idx.ofS s.L a.stream ++ a.evs.map fun e => (⟨a.pos, e⟩ : Idx.Kp)) ∧
    (¬ (a.expect = -1 ∨ a.expect = ((Idx.ofS s.L a.stream).length : Int)) → (applyS s a).2.1 = ⟨2, a.pos, (Idx.ofS s.L a.stream).length, (Idx.ofS s.L a.stream).length⟩ ∧ Idx.ofS (applyS s a).1.L a.stream = Idx.ofS s.L a.stream) := by
  rcases apply_next hr hp with ⟨o, e1, _⟩ | ⟨e1, _⟩ | ⟨_, _, _, e⟩
  · rw [e1] at hw; cases hw
  · omega
  · rw [e]
    refine ⟨rfl, fun h => ⟨?_, ?_⟩, fun h => ⟨?_, ?_⟩⟩
    · show freshO s a = _
      unfold freshO verS
      rw [if_neg (by omega)]
    · show Idx.ofS (freshL s a) _ = _
      unfold freshL verS
      rw [if_neg (by omega), ofS_addS]
    · show freshO s a = _
      unfold freshO verS
      rw [if_pos (by omega)]
    · show Idx.ofS (freshL s a) _ = _
      unfold freshL verS
      rw [if_pos (by omega)]
theorem apply_ok {s : St} {a : Ent} (hr : rightB a = true) (hp : a.pos = s.ap + 1) : (applyS s a).2.2 = 0 := by
  rcases apply_next hr hp with ⟨o, _, _, _, e⟩ | ⟨_, _, e⟩ | ⟨_, _, _, e⟩ <;> rw [e]
theorem pos_added (l : List Idx.Kp) (e : Ev) (es : List Ev) (p : Int) : Idx.posOf (l ++ (e :: es).map fun e => (⟨p, e⟩ : Idx.Kp)) ((l.length : Int) + 1) = p := by
  unfold Idx.posOf
  rw [if_neg (by rw [List.length_append, List.length_map, List.length_cons]; omega), show ((l.length : Int) + 1 - 1).toNat = l.length by omega]
  simp
end Go.Proofs.YtlfhokcjbgpjhaaGreatDoor

/- Rows of entries that one makes; the statements' helper row. No condition. -/
namespace Go.Proofs.YtlfhokcjbgpjhaaGreatDoor
open Go.RowKit Go.Bl
attribute [local go_sem ↓] Go.wp_at_zero Go.wp_at_succ

theorem sl_map {α β : Type} {w : World} {F : Nat → Prop} {k : Nat} {enc : β → List Value} {v : Value} {L : List α} (f : α → β) : Sl w F k (fun x => enc (f x)) v L ↔ Sl w F k enc v (L.map f) := by
  constructor
  · rintro ⟨A, c, h1, h2, h3, h4⟩
    refine ⟨A, c, by rw [List.length_map]; exact h1, by rw [List.length_map]; exact h2, h3, fun h0 => ?_⟩
    rw [List.length_map] at h0
    obtain ⟨b, o, e1, e2, e3, e4⟩ := h4 h0
    refine ⟨b, o, e1, e2, e3, fun i hi j u hu => ?_⟩
    have hi' : i < L.length := by simpa using hi
    rw [List.getElem_map] at hu
    exact e4 i hi' j u hu
  · rintro ⟨A, c, h1, h2, h3, h4⟩
    rw [List.length_map] at h1 h2
    refine ⟨A, c, h1, h2, h3, fun h0 => ?_⟩
    obtain ⟨b, o, e1, e2, e3, e4⟩ := h4 (by rw [List.length_map]; exact h0)
    refine ⟨b, o, e1, e2, e3, fun i hi j u hu => ?_⟩
    exact e4 i (by rw [List.length_map]; exact hi) j u (by rw [List.getElem_map]; exact hu)
/-- Entries whose slice of events is one cell. -/
structure EntS where
  val : Ent
  one : val.evv.oneCell' = true
def ensc (a : EntS) : List Value := entc a.val
theorem ensc_one (x : EntS) (u : Value) (h : u ∈ ensc x) : u.oneCell' = true := by
  simp only [ensc, entc, List.mem_cons, List.not_mem_nil, or_false] at h
  rcases h with rfl | rfl | rfl | rfl | rfl | rfl | rfl <;> first | rfl | exact x.one
theorem infoEntry : (Tryz.prog.info? 42).map (fun i => (i.zero, i.size, i.bytes)) = some (some (.agg #[.int .i64 0, .int .i64 0, .string ByteArray.empty, .int .i64 0, .int .i64 0, .int .i64 0, .slice none 0 0]), 7, 80) := by kernel_rfl
theorem elEns : El Tryz.prog 22 42 7 80 ensc := ⟨Tryz.underlying22, ⟨_, infoEntry, rfl⟩, by decide, by decide, fun _ => rfl, ensc_one⟩
theorem infoOut : (Tryz.prog.info? 35).map (fun i => (i.zero, i.size, i.bytes)) = some (some (.agg #[.int .i64 0, .int .i64 0, .int .i64 0, .int .i64 0]), 4, 32) := by kernel_rfl
theorem occ_one (x : Ded.Oc) (u : Value) (h : u ∈ Ded.occ x) : u.oneCell' = true := by
  simp only [Ded.occ, List.mem_cons, List.not_mem_nil, or_false] at h
  rcases h with rfl | rfl | rfl | rfl <;> rfl
theorem lift_ents (l : List Ent) (h : ∀ a ∈ l, a.evv.oneCell' = true) : ∃ L : List EntS, L.map (fun x => x.val) = l := by
  induction l with
  | nil => exact ⟨[], rfl⟩
  | cons a l ih =>
    obtain ⟨L, hL⟩ := ih (fun b hb => h b (List.mem_cons_of_mem _ hb))
    exact ⟨⟨a, h a List.mem_cons_self⟩ :: L, by rw [List.map_cons, hL]⟩


/-- Entries that fit are small. -/
theorem EntOk.small {w : World} {G : Nat → Prop} {a : Ent} (h : EntOk w G a) (hf : entF a = true) : BatchSm w G a := by
  obtain ⟨q1, q2, q3⟩ := entF_at hf
  exact ⟨h.1, fun e he => ⟨Nat.le_trans (q3 e he).1 (by decide), Nat.le_trans (q3 e he).2 (by decide)⟩, Nat.le_trans q1 (by decide), Nat.le_trans q2 (by decide)⟩
theorem EntOk.batch {w : World} {G : Nat → Prop} {a : Ent} (h : EntOk w G a) (hf : entF a = true) : BatchOk w G a :=
  ⟨h.1, h.2.1, h.2.2.1, Nat.le_trans (entF_at hf).2.1 (by decide)⟩

/-- One of the row: as it was, or at its place. -/
def Placed (l : List Ent) (R : List EntS) : Prop := ∀ (i : Nat) (h : i < R.length) (h' : i < l.length), R[i].val = l[i] ∨ R[i].val = l[i].at_ ((i : Int) + 1)

set_option maxRecDepth 8000 in
set_option maxHeartbeats 4000000 in
theorem row_any (w : World) (v : Value) (l : List Ent) (h : EntsOk w (fun b => b < w.heap.size) v l) (raw : Int) (hraw : -9223372036854775808 ≤ raw ∧ raw ≤ 9223372036854775807) (hl : l.length ≤ 1000) (hfl : ∀ a ∈ l, a.evs.length ≤ 1000) :
    Calls Tryz.prog 8 #[v, .int .i64 raw] w fun e w' => ∃ u R, e = .returned u ∧ R.length = l.length ∧ Own w' w.heap.size 42 7 ensc u R ∧ Placed l R ∧ Below w.heap.size w w' := by
  obtain ⟨A, c, rfl, hA1, hA2⟩ := h.1.shape
  unfold maxLen at hA2
  have HA := Lib.hid h
  have HFL := Lib.hid hfl
  clear h hfl
  go_enter Tryz.func8, Tryz.ntmps8
  go_wp2_with fail
  go_loopw [5, 6] (fun u i wr => ∃ (k : Nat) (R : List EntS), k ≤ l.length ∧ i = .int .i64 k ∧ R.length = k ∧ Own wr w.heap.size 42 7 ensc u R ∧ Placed l R ∧ Below w.heap.size w wr) (fun _ i _ => l.length - (RowKit.intOf i).toNat)
  case atStart => exact ⟨0, [], Nat.zero_le _, rfl, rfl, Own.nil_ _ _ _ _ _, fun i h => absurd h (by simp), Below.refl _ _⟩
  case round =>
    obtain ⟨k, R, hk, rfl, hRl, hO, hR, hB⟩ := hrel
    obtain ⟨Au, cu, rfl, _, _⟩ := hO.shape_ (n := R.length) rfl
    have HO := Lib.hid hO
    have HR := Lib.hid hR
    have HRL := Lib.hid hRl
    have hrk : R.length ≤ 1000 := by omega
    by_cases hlt : k < l.length
    · have hAr := HA.out.fresh hB
      obtain ⟨b, o, rfl, _, _, hxx⟩ := hAr.1.cell_ hlt
      have hbo := hAr.2 l[k] (List.getElem_mem hlt)
      have hevl := HFL.out l[k] (List.getElem_mem hlt)
      have HLK := Lib.hid (rfl : l[k] = l[k])
      obtain ⟨a, ha⟩ : ∃ a, l[k] = a := ⟨_, rfl⟩
      rw [ha] at hxx hbo hevl
      have HAK := Lib.hid ha
      obtain ⟨B, d, hv, _, _⟩ := hbo.1.shape
      have one : a.evv.oneCell' = true := by rw [hv]; rfl
      have x0 := hxx 0 _ rfl
      have x1 := hxx 1 _ rfl
      have x2 := hxx 2 _ rfl
      have x3 := hxx 3 _ rfl
      have x4 := hxx 4 _ rfl
      have x5 := hxx 5 _ rfl
      have x6 := hxx 6 _ rfl
      rw [hv] at x6
      simp only [Nat.add_zero] at x0
      have HV := Lib.hid hv
      have HONEC := Lib.hid one
      have HB := Lib.hid hB
      clear hxx hAr hbo hv ha hO hR hB one hRl HLK
      have hB1 : Below wr.heap.size wr (wr.alloc (.cells #[.int .i64 a.pos, .int .i64 a.epoch, .string a.stream, .int .i64 a.expect, .int .i64 a.session, .int .i64 a.seq, .slice B a.evs.length d] 42)) := (Below.refl _ wr).alloc (Nat.le_refl _) _
      have hblk := heap_alloc_new wr (.cells #[.int .i64 a.pos, .int .i64 a.epoch, .string a.stream, .int .i64 a.expect, .int .i64 a.session, .int .i64 a.seq, .slice B a.evs.length d] 42)
      go_upto_region 6 with (fail)
      generalize wr.alloc (.cells #[.int .i64 a.pos, .int .i64 a.epoch, .string a.stream, .int .i64 a.expect, .int .i64 a.session, .int .i64 a.seq, .slice B a.evs.length d] 42) = w1 at hB1 hblk ⊢
      have HB1 := Lib.hid (HB.out.trans (hB1.mono HB.out.size))
      have hgw : wr.heap.size < w1.heap.size := (Array.getElem?_eq_some_iff.1 hblk).1
      have g0 : w1.frozen? ⟨wr.heap.size, 0, none⟩ = false := frozen_block hblk 0
      clear x0 x1 x2 x3 x4 x5 x6
      have y0 : w1.cell? ⟨wr.heap.size, 0, none⟩ = some (.int .i64 (a.pos)) := cell_of_row w1 _ 0 _ _ _ hblk
      have y1 : w1.cell? ⟨wr.heap.size, 1, none⟩ = some (.int .i64 a.epoch) := cell_of_row w1 _ 1 _ _ _ hblk
      have y2 : w1.cell? ⟨wr.heap.size, 2, none⟩ = some (.string a.stream) := cell_of_row w1 _ 2 _ _ _ hblk
      have y3 : w1.cell? ⟨wr.heap.size, 3, none⟩ = some (.int .i64 a.expect) := cell_of_row w1 _ 3 _ _ _ hblk
      have y4 : w1.cell? ⟨wr.heap.size, 4, none⟩ = some (.int .i64 a.session) := cell_of_row w1 _ 4 _ _ _ hblk
      have y5 : w1.cell? ⟨wr.heap.size, 5, none⟩ = some (.int .i64 a.seq) := cell_of_row w1 _ 5 _ _ _ hblk
      have y6 : w1.cell? ⟨wr.heap.size, 6, none⟩ = some (.slice B a.evs.length d) := cell_of_row w1 _ 6 _ _ _ hblk
      have HO1 := Lib.hid (HO.out.fresh hB1)
      have hOl := fun b hb => (HO.out.lt b hb).2
      have HOL := Lib.hid hOl
      have HBLK := Lib.hid hblk
      have hwb := HB.out.size
      clear hblk hB1 hOl
      go_wp2_with fail
      refine (pick_any w1 raw hraw 7 (by decide) (by decide)).mono ?_
      rintro e w2 ⟨j, hj, rfl, rfl⟩
      by_cases hjk : j = k
      · have d1 : ((j : Int) != (k : Int)) = false := by simp [hjk]
        have HKK := Lib.hid (Keeps.refl (fun q => q = wr.heap.size) w1)
        have HO := HO1
        have HBK := HB1
        clear hjk g0
        have hone := fun (cs : Array Value) (hcs : cs.toList = ensc ⟨a,HONEC.out⟩) => Sl.single (k := 7) (enc := ensc) (x := ⟨a,HONEC.out⟩) (heap_alloc_new w1 (.cells cs 42)) hcs
        have hBn : Below w1.heap.size w1 (w1.alloc (.cells #[.int .i64 (a.pos), .int .i64 a.epoch, .string a.stream, .int .i64 a.expect, .int .i64 a.session, .int .i64 a.seq, .slice B a.evs.length d] 42)) := (Below.refl _ _).alloc (Nat.le_refl _) _
        have HONE := Lib.hid (hone #[.int .i64 (a.pos), .int .i64 a.epoch, .string a.stream, .int .i64 a.expect, .int .i64 a.session, .int .i64 a.seq, .slice B a.evs.length d] (by show _ = entc _; simp only [entc, HV.out]))
        have HOW := Lib.hid ((HO.out.keep HKK.out (fun b hb e => by have := HOL.out b hb; omega)).fresh hBn)
        have HBN := Lib.hid (HBK.out.trans (hBn.mono HBK.out.size))
        clear hone hBn
        go_wp2_with (at_builtin; refine elEns.append _ (by rfl) _ _ rfl w.heap.size _ _ rfl HOW.out _ _ _ rfl HONE.out (by simp; omega) HBN.out.size ?_; intro v' w' hO' hgr hAt)
        go_roundw
        case rel =>
          refine ⟨k + 1, R ++ [⟨a,HONEC.out⟩], hlt, by go_num, by have := HRL.out; simp; omega, hO', fun i h1 h2 => ?_, Below.keep HBN.out (Keeps.of_grown hgr) HBN.out.size (fun q hq => (HOW.out.lt q hq).1)⟩
          by_cases hi : i < R.length
          · rw [List.getElem_append_left hi]
            exact HR.out i hi h2
          · have hik : i = k := by have := HRL.out; rw [List.length_append] at h1; simp at h1; omega
            subst hik
            rw [List.getElem_append_right (by have := HRL.out; omega)]
            simp only [HRL.out, Nat.sub_self, List.getElem_cons_zero]
            exact .inl HAK.out.symm
        case measure => simp [RowKit.intOf]; omega
      · have d1 : ((j : Int) != (k : Int)) = true := by simp; omega
        clear hjk
        go_upto_region 8 with (fail)
        have hkS : Keeps (fun q => q = wr.heap.size) w1 _ := (Keeps.refl (fun q => q = wr.heap.size) w1).setCell (p := ⟨wr.heap.size, 0, none⟩) (fun _ => rfl) (.int .i64 ((k : Int) + 1))
        have hk2 := setCell_block' (o := 0) (v := .int .i64 ((k : Int) + 1)) HBLK.out
        generalize w1.setCell ⟨wr.heap.size, 0, none⟩ (.int .i64 ((k : Int) + 1)) = w2 at hkS hk2 ⊢
        have HKK := Lib.hid hkS
        have HO := HO1
        have HBK := Lib.hid (Below.keep HB1.out hkS HB1.out.size (fun q e => by omega))
        clear y0 y1 y2 y3 y4 y5 y6 g0 hkS
        have y0 : w2.cell? ⟨wr.heap.size, 0, none⟩ = some (.int .i64 ((k:Int)+1)) := cell_of_row w2 _ 0 _ _ _ hk2
        have y1 : w2.cell? ⟨wr.heap.size, 1, none⟩ = some (.int .i64 a.epoch) := cell_of_row w2 _ 1 _ _ _ hk2
        have y2 : w2.cell? ⟨wr.heap.size, 2, none⟩ = some (.string a.stream) := cell_of_row w2 _ 2 _ _ _ hk2
        have y3 : w2.cell? ⟨wr.heap.size, 3, none⟩ = some (.int .i64 a.expect) := cell_of_row w2 _ 3 _ _ _ hk2
        have y4 : w2.cell? ⟨wr.heap.size, 4, none⟩ = some (.int .i64 a.session) := cell_of_row w2 _ 4 _ _ _ hk2
        have y5 : w2.cell? ⟨wr.heap.size, 5, none⟩ = some (.int .i64 a.seq) := cell_of_row w2 _ 5 _ _ _ hk2
        have y6 : w2.cell? ⟨wr.heap.size, 6, none⟩ = some (.slice B a.evs.length d) := cell_of_row w2 _ 6 _ _ _ hk2
        clear hk2
        have hone := fun (cs : Array Value) (hcs : cs.toList = ensc ⟨a.at_ ((k:Int)+1),HONEC.out⟩) => Sl.single (k := 7) (enc := ensc) (x := ⟨a.at_ ((k:Int)+1),HONEC.out⟩) (heap_alloc_new w2 (.cells cs 42)) hcs
        have hBn : Below w2.heap.size w2 (w2.alloc (.cells #[.int .i64 ((k:Int)+1), .int .i64 a.epoch, .string a.stream, .int .i64 a.expect, .int .i64 a.session, .int .i64 a.seq, .slice B a.evs.length d] 42)) := (Below.refl _ _).alloc (Nat.le_refl _) _
        have HONE := Lib.hid (hone #[.int .i64 ((k:Int)+1), .int .i64 a.epoch, .string a.stream, .int .i64 a.expect, .int .i64 a.session, .int .i64 a.seq, .slice B a.evs.length d] (by show _ = entc _; simp only [entc, Ent.at_, HV.out]))
        have HOW := Lib.hid ((HO.out.keep HKK.out (fun b hb e => by have := HOL.out b hb; omega)).fresh hBn)
        have HBN := Lib.hid (HBK.out.trans (hBn.mono HBK.out.size))
        clear hone hBn
        go_wp2_with (at_builtin; refine elEns.append _ (by rfl) _ _ rfl w.heap.size _ _ rfl HOW.out _ _ _ rfl HONE.out (by simp; omega) HBN.out.size ?_; intro v' w' hO' hgr hAt)
        go_roundw
        case rel =>
          refine ⟨k + 1, R ++ [⟨a.at_ ((k:Int)+1),HONEC.out⟩], hlt, by go_num, by have := HRL.out; simp; omega, hO', fun i h1 h2 => ?_, Below.keep HBN.out (Keeps.of_grown hgr) HBN.out.size (fun q hq => (HOW.out.lt q hq).1)⟩
          by_cases hi : i < R.length
          · rw [List.getElem_append_left hi]
            exact HR.out i hi h2
          · have hik : i = k := by have := HRL.out; rw [List.length_append] at h1; simp at h1; omega
            subst hik
            rw [List.getElem_append_right (by have := HRL.out; omega)]
            simp only [HRL.out, Nat.sub_self, List.getElem_cons_zero]
            exact .inr (by rw [HAK.out])
        case measure => simp [RowKit.intOf]; omega
    · have hkd : k = l.length := by omega
      subst hkd
      go_wp2_with fail
      go_ret
      exact ⟨_, R, rfl, HRL.out, HO.out, HR.out, hB⟩
end Go.Proofs.YtlfhokcjbgpjhaaGreatDoor

/- StatePlays: what the statement's function does: it answers true. Under the tables that utf8 lays. -/
namespace Go.Proofs.YtlfhokcjbgpjhaaGreatDoor
open Go.RowKit Go.Bl
attribute [local go_sem ↓] Go.wp_at_zero Go.wp_at_succ

theorem StAt.okL {w : World} {p : Nat} {s : St} {F W : Nat → Prop} (h : StAt w p s F W) : Ded.OkL s.T := by
  obtain ⟨px, pt, FX, FT, GT, h⟩ := h
  obtain ⟨bm, R, h, _⟩ := h.tab
  exact h.ok
theorem apply_str {s : St} {a : Ent} {n : Nat} (h : ∀ o ∈ s.L, o.stream.size ≤ n) (ha : a.stream.size ≤ n) : ∀ o ∈ (applyS s a).1.L, o.stream.size ≤ n := by
  have hf : ∀ o ∈ freshL s a, o.stream.size ≤ n := by
    unfold freshL addS
    split
    · exact h
    · intro o ho
      rcases List.mem_append.1 ho with e | e
      · exact h o e
      · obtain ⟨z, _, rfl⟩ := List.mem_map.1 e
        exact ha
  unfold applyS
  split
  · exact h
  · split
    · exact h
    · split
      · exact h
      · split
        · exact h
        · exact hf
/-- Both states behind k entries, and the row of all of them. -/
structure Both (w0 wr : World) (p m : Nat) (u : Value) (R : List EntS) (s : St) (F W M : Nat → Prop) (k : Nat) : Prop where
  st : StAt wr p s F W
  mt : MtAt wr m s M
  fm : ∀ j, F j → ¬ M j
  fl : ∀ j, F j → w0.heap.size ≤ j
  ml : ∀ j, M j → w0.heap.size ≤ j
  row : Sl wr (fun b => u.ownBlock = some b) 7 ensc u R
  rf : ∀ b, u.ownBlock = some b → b < wr.heap.size ∧ ¬ F b ∧ ¬ M b
  lL : s.L.length ≤ 8 * k
  lT : s.T.length ≤ k
  ap : 0 ≤ s.ap ∧ s.ap ≤ k
  str : ∀ o ∈ s.L, o.stream.size ≤ 300
  bel : Below w0.heap.size w0 wr
section
variable {w0 wr wx w7 w8 w9 : World} {p m k : Nat} {u : Value} {R : List EntS} {s s' : St} {F W M : Nat → Prop}
theorem Both.fresh (h : Both w0 wr p m u R s F W M k) (hb : Below wr.heap.size wr wx) : Both w0 wx p m u R s F W M k :=
  ⟨h.st.fresh hb, h.mt.fresh hb, h.fm, h.fl, h.ml, h.row.fresh hb, fun b e => ⟨Nat.lt_of_lt_of_le (h.rf b e).1 hb.size, (h.rf b e).2⟩, h.lL, h.lT, h.ap, h.str, h.bel.trans (hb.mono h.bel.size)⟩
theorem Both.stl (h : Both w0 wr p m u R s F W M k) : ∀ j, W j → j < wr.heap.size := fun j hj => h.st.lt j (h.st.wf j hj)
/-- Only blocks of neither state, nor of the row, are turned. -/
theorem Both.keep {G : Nat → Prop} (h : Both w0 wr p m u R s F W M k) (hk : Keeps G wr wx) (hG : ∀ j, G j → wr.heap.size ≤ j) : Both w0 wx p m u R s F W M k :=
  h.fresh (hk.below (Nat.le_refl _) hG)
theorem Both.after (h : Both w0 wr p m u R s F W M k) (hA : Applied wr w7 p s' F W) : MtAt w7 m s M := by
  obtain ⟨W', _, _, hK⟩ := hA
  exact h.mt.keep hK (fun j hj e => h.fm j (h.st.wf j e) hj)
theorem Both.keepE (_h : Both w0 wr p m u R s F W M k) (hA : Applied wr w7 p s' F W) {g : Nat} {o : Obj} (hg : wr.heap[g]? = some o) (hn : ¬ W g) : w7.heap[g]? = some o := by
  obtain ⟨W', _, _, hK⟩ := hA
  exact hK.grownTo hg hn
theorem Both.belApp (h : Both w0 wr p m u R s F W M k) (hA : Applied wr w7 p s' F W) : Below w0.heap.size w0 w7 := by
  obtain ⟨W', _, _, hK⟩ := hA
  exact Below.keep h.bel hK h.bel.size (fun j hj => h.fl j (h.st.wf j hj))
theorem Both.step (h : Both w0 wr p m u R s F W M k) {a : Ent} {o : Ded.Oc} {r : Int} (hA : Applied wr w7 p s' F W) (hb : Below w7.heap.size w7 w8) (hM : MApplied w8 w9 m s' M) (hr : applyS s a = (s', o, r)) (ha : a.stream.size ≤ 300) :
    ∃ F' W' M', Both w0 w9 p m u R s' F' W' M' (k + 1) := by
  have hbA := h.belApp hA
  obtain ⟨W', h1, h3, hK⟩ := hA
  obtain ⟨hMt, hKM⟩ := hM
  obtain ⟨g1, g2, g3, _⟩ := apply_grows s a
  have hstr := apply_str (a := a) h.str ha
  rw [hr] at g1 g2 g3 hstr
  have g1 : s'.L.length ≤ s.L.length + 8 := g1
  have g2 : s'.T.length ≤ s.T.length + 1 := g2
  have g3 : s.ap ≤ s'.ap ∧ s'.ap ≤ s.ap + 1 := g3
  have ml := h.mt.lt
  have fl := h.st.lt
  have z0 := hK.size
  have z1 := hb.size
  have z2 := hKM.size
  refine ⟨fun j => F j ∨ (wr.heap.size ≤ j ∧ j < w7.heap.size), W', fun j => M j ∨ (w8.heap.size ≤ j ∧ j < w9.heap.size), ?_⟩
  refine ⟨(h3.fresh hb).keep hKM ?_, hMt, ?_, ?_, ?_, ?_, ?_, by have := h.lL; omega, by have := h.lT; omega, by have := h.ap; omega, hstr, ?_⟩
  · rintro j (hj | hj) e
    · exact h.fm j hj e
    · have := ml j e; omega
  · rintro j (hj | hj) (e | e)
    · exact h.fm j hj e
    · have := fl j hj; omega
    · have := ml j e; omega
    · omega
  · rintro j (hj | hj)
    · exact h.fl j hj
    · exact Nat.le_trans h.bel.size hj.1
  · rintro j (hj | hj)
    · exact h.ml j hj
    · have := hbA.size; omega
  · refine ((h.row.keep hK (fun b _ hb' e => (h.rf b hb').2.1 (h.st.wf b e))).fresh hb).keep hKM (fun b _ hb' e => (h.rf b hb').2.2 e)
  · intro b hb'
    obtain ⟨q1, q2, q3⟩ := h.rf b hb'
    refine ⟨by omega, ?_, ?_⟩
    · rintro (e | e)
      · exact q2 e
      · omega
    · rintro (e | e)
      · exact q3 e
      · omega
  · exact Below.keep (hbA.trans (hb.mono hbA.size)) hKM (Nat.le_trans hbA.size z1) (fun j hj => h.ml j hj)
end

set_option maxRecDepth 10000 in
set_option maxHeartbeats 4000000 in
theorem plays_any (w : World) (hT : Tabs w) (v : Value) (l : List Ent) (h : EntsOk w (fun b => b < w.heap.size) v l) (raw : Int) (hraw : -9223372036854775808 ≤ raw ∧ raw ≤ 9223372036854775807) :
    Calls Tryz.prog 4 #[v, .int .i64 raw] w fun x w' => x = .returned (.bool true) ∧ Below w.heap.size w w' := by
  have hne := neqOc
  obtain ⟨A, c, rfl, hA1, hA2⟩ := h.1.shape
  unfold maxLen at hA2
  have HTb := Lib.hid hT
  have HA := Lib.hid h
  clear hT h
  go_enter Tryz.func4, Tryz.ntmps4
  go_wp2_with fail
  refine (shown_any w HTb.out).mono ?_
  rintro e wa ⟨rfl, hBa⟩
  have HBa := Lib.hid hBa
  clear hBa
  go_wp2_with fail
  refine (fits_all wa _ _ l (HA.out.fresh HBa.out)).mono ?_
  rintro x wb ⟨rfl, hBb⟩
  have HBb := Lib.hid (HBa.out.trans (hBb.mono HBa.out.size))
  clear hBb
  go_wp2_with fail
  refine (snew_any wb).mono ?_
  rintro e wc ⟨p, W0, rfl, _, hW0, hS0, hBc⟩
  have HBc := Lib.hid (HBb.out.trans (hBc.mono HBb.out.size))
  have HS0 := Lib.hid hS0
  have hzc := hBc.size
  clear hBc hS0 hW0
  cases hfb : fitsB l
  · go_wp2_with fail
    go_ret
    exact ⟨rfl, HBc.out⟩
  have HFB := Lib.hid hfb
  clear hfb
  have hl40 := (fitsB_at HFB.out).1
  go_wp2_with fail
  refine (mnew_any wc).mono ?_
  rintro e wd ⟨m, rfl, hM0, hBd⟩
  have HM0 := Lib.hid hM0
  have HBd := Lib.hid (HBc.out.trans (hBd.mono HBc.out.size))
  have HSd := Lib.hid (HS0.out.fresh hBd)
  have hzd := hBd.size
  clear hM0 hBd HS0
  go_wp2_with fail
  refine (row_any wd _ l (by
    have h0 := HA.out.fresh HBd.out
    exact ⟨h0.1.mono (fun k hk _ => hk), fun a ha => ⟨(h0.2 a ha).1.mono (fun k hk _ => hk), (h0.2 a ha).2⟩⟩) raw hraw (by omega) (fun a ha => by have := (entF_at ((fitsB_at HFB.out).2 a ha)).2.1; omega)).mono ?_
  rintro e we ⟨u, R, rfl, hRl, hO, hPl, hBe⟩
  have hB0 : Both w we p m u R St.new (fun k => wb.heap.size ≤ k ∧ k < wc.heap.size) W0 (fun k => wc.heap.size ≤ k ∧ k < wd.heap.size) 0 :=
    ⟨HSd.out.fresh hBe, HM0.out.fresh hBe, fun j h1 h2 => by omega, fun j hj => Nat.le_trans HBb.out.size hj.1, fun j hj => Nat.le_trans HBc.out.size hj.1, (hO.sl elEns.len),
      fun b hb => ⟨(hO.lt b hb).2, fun e => by have := (hO.lt b hb).1; omega, fun e => by have := (hO.lt b hb).1; omega⟩, by simp [St.new], by simp [St.new], by simp [St.new], by simp [St.new], HBd.out.trans (hBe.mono HBd.out.size)⟩
  obtain ⟨Au, cu, rfl, hu1, hu2⟩ := hO.shape_ (n := R.length) rfl
  unfold maxLen at hu2
  have HB0 := Lib.hid hB0
  have HRl := Lib.hid hRl
  have HPl := Lib.hid hPl
  have hR40 : R.length ≤ 40 := by omega
  clear hB0 hRl hPl hO hBe
  go_wp2_with fail
  go_loopw [10] (fun i wr => ∃ (k : Nat) (s : St) (F W M : Nat → Prop), k ≤ R.length ∧ i = .int .i64 k ∧ Both w wr p m (.slice Au R.length cu) R s F W M k) (fun i _ => R.length - (RowKit.intOf i).toNat)
  case atStart => exact ⟨0, St.new, _, W0, _, Nat.zero_le _, rfl, HB0.out⟩
  case round =>
    obtain ⟨k, s, F, W, M, hk, rfl, hBo⟩ := hrel
    have HBo := Lib.hid hBo
    clear hBo HB0
    by_cases hlt : k < R.length
    · go_wp2_with fail
      refine (sclone_any wr p s F W HBo.out.st (by have := HBo.out.lL; omega) (by have := HBo.out.lT; omega)).mono ?_
      rintro e wq ⟨q, Wq, rfl, hq, hWq, hBq, hSq⟩
      have HWq := Lib.hid hWq
      have HSq := Lib.hid hSq
      have HBoq := Lib.hid (HBo.out.fresh hBq)
      have hzq := hBq.size
      clear hWq hSq hBq hq
      go_wp2_with fail
      refine (applied_any wq p s F W HBoq.out.st).mono ?_
      rintro e wz ⟨rfl, rfl⟩
      have hap := HBoq.out.ap
      have hap1 : s.ap + 1 < 1000000 := by omega
      have hap2 : 0 ≤ s.ap + 1 := by omega
      go_wp2_with fail
      refine (first_any wq (s.ap + 1) 50 (-1) 1 (by decide)).mono ?_
      rintro e w1 ⟨v1, rfl, hO1, hB1⟩
      have HO1 := Lib.hid hO1
      have HBo1 := Lib.hid (HBoq.out.fresh hB1)
      have hb1 : BatchOk w1 (fun q => v1.ownBlock = some q) (firstE (s.ap + 1) 50 (-1) 1 v1) := ⟨hO1.sl (fun _ => rfl), firstE_ok 0 0 0 1 (.int .i64 0), by show (1 : Nat) ≤ _; omega, by simp [firstE]⟩
      have hcall := apply_any w1 (HTb.out.fresh HBo1.out.bel) q s _ Wq (HSq.out.fresh hB1) _ (firstE (s.ap + 1) 50 (-1) 1 v1) hb1 (fun b hb e => by have h1 := (hO1.lt b hb).1; have h2 := HSq.out.lt b (HSq.out.wf b e); omega) (by omega) (by have := HBoq.out.lL; simp [firstE]; omega) (by have := HBoq.out.lT; omega)
      have HC := Lib.hid hcall
      clear hO1 hB1 hb1 hcall
      go_wp2_with fail
      refine HC.out.mono ?_
      rintro e wf ⟨rfl, hAp⟩
      have hKf : Keeps Wq w1 wf := hAp.elim fun _ h => h.2.2
      have HBof : Hid (Both w wf p m (.slice Au R.length cu) R s F W M k) := Lib.hid (by
        have h0 := HBo1.out
        have lF := HBo.out.st.lt
        have lM := HBo.out.mt.lt
        refine ⟨h0.st.keep hKf (fun j hj e => ?_), h0.mt.keep hKf (fun j hj e => ?_), h0.fm, h0.fl, h0.ml, h0.row.keep hKf (fun b _ hb e => ?_), fun b hb => ⟨Nat.lt_of_lt_of_le (h0.rf b hb).1 hKf.size, (h0.rf b hb).2⟩, h0.lL, h0.lT, h0.ap, h0.str, Below.keep h0.bel hKf h0.bel.size (fun j hj => ?_)⟩
        · have := lF j hj; have := HWq.out j e; omega
        · have := lM j hj; have := HWq.out j e; omega
        · have := (HBo.out.rf b hb).1; have := HWq.out b e; omega
        · have := HWq.out j hj; have := HBo.out.bel.size; omega)
      clear hAp hKf HC HBo1 HBoq HSq HWq HO1 HBo
      obtain ⟨b, o, rfl, _, _, hxx⟩ := HBof.out.row.cell_ hlt
      have hxx : ∀ (i : Nat) (u : Value), (entc R[k].val)[i]? = some u → wf.cell? ⟨b, o + k * 7 + i, none⟩ = some u := hxx
      have hlk : k < l.length := by have := HRl.out; omega
      obtain ⟨pos0, hpos⟩ : ∃ pos0, R[k].val = l[k].at_ pos0 := by
        rcases HPl.out k hlt hlk with e | e
        · exact ⟨l[k].pos, e⟩
        · exact ⟨_, e⟩
      rw [hpos] at hxx
      have hok := HA.out.2 l[k] (List.getElem_mem hlk)
      have hfe := (fitsB_at HFB.out).2 l[k] (List.getElem_mem hlk)
      obtain ⟨a, ha⟩ : ∃ a, l[k] = a := ⟨_, rfl⟩
      rw [ha] at hxx hok hfe
      obtain ⟨B, d, hv, _, _⟩ := hok.1.shape
      have x0 := hxx 0 _ rfl
      have x1 := hxx 1 _ rfl
      have x2 := hxx 2 _ rfl
      have x3 := hxx 3 _ rfl
      have x4 := hxx 4 _ rfl
      have x5 := hxx 5 _ rfl
      have x6 := hxx 6 _ rfl
      simp only [Ent.at_] at x0 x1 x2 x3 x4 x5 x6
      rw [hv] at x6
      simp only [Nat.add_zero] at x0
      have HFE := Lib.hid (entF_at hfe).1
      have hevl := (entF_at hfe).2.1
      have HV := Lib.hid hv
      have hEv : ∀ wz, Below w.heap.size w wz → ∀ pos : Int, BatchOk wz (fun b => b < w.heap.size) (a.at_ pos) ∧ BatchSm wz (fun b => b < w.heap.size) (a.at_ pos) := fun wz hz pos => by
        have h0 := hok.fresh hz
        exact ⟨h0.batch hfe, h0.small hfe⟩
      have HEV := Lib.hid hEv
      have HNW : Hid (¬ W wf.heap.size) := Lib.hid (fun e => by have := HBof.out.stl _ e; omega)
      have hB5 : Below wf.heap.size wf (wf.alloc (.cells #[.int .i64 pos0, .int .i64 a.epoch, .string a.stream, .int .i64 a.expect, .int .i64 a.session, .int .i64 a.seq, .slice B a.evs.length d] 42)) := (Below.refl _ wf).alloc (Nat.le_refl _) _
      have hblk := heap_alloc_new wf (.cells #[.int .i64 pos0, .int .i64 a.epoch, .string a.stream, .int .i64 a.expect, .int .i64 a.session, .int .i64 a.seq, .slice B a.evs.length d] 42)
      clear hxx hpos hok hfe ha hv hEv
      go_upto_region 16 with (fail)
      generalize wf.alloc (.cells #[.int .i64 pos0, .int .i64 a.epoch, .string a.stream, .int .i64 a.expect, .int .i64 a.session, .int .i64 a.seq, .slice B a.evs.length d] 42) = w5 at hB5 hblk ⊢
      have HBo5 := Lib.hid (HBof.out.fresh hB5)
      have HB5 := Lib.hid hB5
      have HE := Lib.hid hblk
      have y0 : w5.cell? ⟨wf.heap.size, 0, none⟩ = some (.int .i64 pos0) := cell_of_row w5 _ 0 _ _ _ hblk
      have g0 : w5.frozen? ⟨wf.heap.size, 0, none⟩ = false := frozen_block hblk 0
      clear x0 x1 x2 x3 x4 x5 x6 hB5 hblk
      by_cases hpk : pos0 = (k : Int) + 1
      · have d1 : (pos0 == (k : Int) + 1) = true := by simp [hpk]
        clear hpk
        go_wp2_with fail
        refine (applied_any w5 p s F W HBo5.out.st).mono ?_
        rintro e wz ⟨rfl, rfl⟩
        go_upto_region 18 with (fail)
        have hkS : Keeps (fun q => q = wf.heap.size) wf _ := ((Keeps.of_fresh HB5.out (fun q => q = wf.heap.size))).setCell (p := ⟨wf.heap.size, 0, none⟩) (fun _ => rfl) (.int .i64 (s.ap + 1))
        have hk2 := setCell_block' (o := 0) (v := .int .i64 (s.ap + 1)) HE.out
        generalize w5.setCell ⟨wf.heap.size, 0, none⟩ (.int .i64 (s.ap + 1)) = w6 at hkS hk2 ⊢
        have HBo := Lib.hid (HBof.out.keep hkS (fun j e => by omega))
        have HBZ := Lib.hid HBo.out.bel
        have HE := Lib.hid hk2
        clear y0 g0 d1 hkS hk2
        as_aux_lemma =>
        have y0 : w6.cell? ⟨wf.heap.size, 0, none⟩ = some (.int .i64 (s.ap+1)) := cell_of_row w6 _ 0 _ _ _ HE.out
        have y1 : w6.cell? ⟨wf.heap.size, 1, none⟩ = some (.int .i64 a.epoch) := cell_of_row w6 _ 1 _ _ _ HE.out
        have y2 : w6.cell? ⟨wf.heap.size, 2, none⟩ = some (.string a.stream) := cell_of_row w6 _ 2 _ _ _ HE.out
        have y3 : w6.cell? ⟨wf.heap.size, 3, none⟩ = some (.int .i64 a.expect) := cell_of_row w6 _ 3 _ _ _ HE.out
        have y4 : w6.cell? ⟨wf.heap.size, 4, none⟩ = some (.int .i64 a.session) := cell_of_row w6 _ 4 _ _ _ HE.out
        have y5 : w6.cell? ⟨wf.heap.size, 5, none⟩ = some (.int .i64 a.seq) := cell_of_row w6 _ 5 _ _ _ HE.out
        have y6 : w6.cell? ⟨wf.heap.size, 6, none⟩ = some (.slice B a.evs.length d) := cell_of_row w6 _ 6 _ _ _ HE.out
        have HBt := Lib.hid (HEV.out w6 HBZ.out (s.ap+1))
        have hcall := apply_any w6 (HTb.out.fresh HBZ.out) p s F W HBo.out.st _ (a.at_ (s.ap+1)) (HBt.out.1) (fun q hq e => by have := HBo.out.fl q (HBo.out.st.wf q e); omega) (by have := HBo.out.ap; omega) (by have := HBo.out.lL; show _ + a.evs.length ≤ _; omega) (by have := HBo.out.lT; omega)
        rw [show (a.at_ (s.ap+1)).evv = .slice B a.evs.length d from HV.out] at hcall
        rcases hrr : applyS s (a.at_ (s.ap+1)) with ⟨s', ⟨r1, r2, r3, r4⟩, r5⟩
        rw [hrr] at hcall
        have HC := Lib.hid hcall
        have HRR := Lib.hid hrr
        clear hcall hrr
        go_wp2_with fail
        refine HC.out.mono ?_
        rintro e w7 ⟨rfl, hAp⟩
        have HAp := Lib.hid hAp
        have HMt := Lib.hid (HBo.out.after hAp)
        have HE7 := Lib.hid (HBo.out.keepE hAp HE.out HNW.out)
        have HBZ7 := Lib.hid (HBo.out.belApp hAp)
        have hB8 : Below w7.heap.size w7 (w7.alloc (.cells #[.int .i64 r1, .int .i64 r2, .int .i64 r3, .int .i64 r4] 35)) := (Below.refl _ _).alloc (Nat.le_refl _) _
        have hg1 := heap_alloc_new w7 (.cells #[.int .i64 r1, .int .i64 r2, .int .i64 r3, .int .i64 r4] 35)
        clear hAp y0 y1 y2 y3 y4 y5 y6
        go_upto_region 19 with (fail)
        generalize w7.alloc (.cells #[.int .i64 r1, .int .i64 r2, .int .i64 r3, .int .i64 r4] 35) = w8 at hB8 hg1 ⊢
        have HB8 := Lib.hid hB8
        have HG1 := Lib.hid hg1
        have hE8 := (Keeps.of_fresh hB8 (fun _ => False)).grownTo HE7.out id
        have HE8 := Lib.hid hE8
        have y0 : w8.cell? ⟨wf.heap.size, 0, none⟩ = some (.int .i64 (s.ap+1)) := cell_of_row w8 _ 0 _ _ _ hE8
        have y1 : w8.cell? ⟨wf.heap.size, 1, none⟩ = some (.int .i64 a.epoch) := cell_of_row w8 _ 1 _ _ _ hE8
        have y2 : w8.cell? ⟨wf.heap.size, 2, none⟩ = some (.string a.stream) := cell_of_row w8 _ 2 _ _ _ hE8
        have y3 : w8.cell? ⟨wf.heap.size, 3, none⟩ = some (.int .i64 a.expect) := cell_of_row w8 _ 3 _ _ _ hE8
        have y4 : w8.cell? ⟨wf.heap.size, 4, none⟩ = some (.int .i64 a.session) := cell_of_row w8 _ 4 _ _ _ hE8
        have y5 : w8.cell? ⟨wf.heap.size, 5, none⟩ = some (.int .i64 a.seq) := cell_of_row w8 _ 5 _ _ _ hE8
        have y6 : w8.cell? ⟨wf.heap.size, 6, none⟩ = some (.slice B a.evs.length d) := cell_of_row w8 _ 6 _ _ _ hE8
        have hcall := mapply_any w8 m s M (HMt.out.fresh hB8) _ (a.at_ (s.ap+1)) ((HEV.out w8 (HBZ7.out.trans (hB8.mono HBZ7.out.size)) (s.ap+1)).2) (fun q hq e => by have := HBo.out.ml q e; omega) (by have := HBo.out.ap; omega) (by have := HBo.out.lL; show _ + a.evs.length ≤ _; omega) (by have := HBo.out.lT; omega)
        rw [show (a.at_ (s.ap+1)).evv = .slice B a.evs.length d from HV.out, HRR.out] at hcall
        have HC := Lib.hid hcall
        clear hcall hB8 hg1 hE8
        go_wp2_with fail
        refine HC.out.mono ?_
        rintro e w9 ⟨rfl, hMp⟩
        obtain ⟨F', W', M', hBo9⟩ := HBo.out.step HAp.out HB8.out hMp HRR.out HFE.out
        have hg1 := hMp.2.grownTo HG1.out (by
          have := HMt.out.lt
          exact fun e => by have := this _ e; omega)
        have hB10 : Below w9.heap.size w9 (w9.alloc (.cells #[.int .i64 r1, .int .i64 r2, .int .i64 r3, .int .i64 r4] 35)) := (Below.refl _ _).alloc (Nat.le_refl _) _
        have hg2 := heap_alloc_new w9 (.cells #[.int .i64 r1, .int .i64 r2, .int .i64 r3, .int .i64 r4] 35)
        have hg1 := (Keeps.of_fresh hB10 (fun _ => False)).grownTo hg1 id
        have HBo10 := Lib.hid (hBo9.fresh hB10)
        clear hMp hBo9 hB10 y0 y1 y2 y3 y4 y5 y6
        go_upto_region 20 with (fail)
        generalize w9.alloc (.cells #[.int .i64 r1, .int .i64 r2, .int .i64 r3, .int .i64 r4] 35) = w10 at hg1 hg2 HBo10 ⊢
        have q0 : w10.cell? ⟨w7.heap.size, 0, none⟩ = some (.int .i64 r1) := cell_of_row w10 _ 0 _ _ _ hg1
        have q1 : w10.cell? ⟨w7.heap.size, 1, none⟩ = some (.int .i64 r2) := cell_of_row w10 _ 1 _ _ _ hg1
        have q2 : w10.cell? ⟨w7.heap.size, 2, none⟩ = some (.int .i64 r3) := cell_of_row w10 _ 2 _ _ _ hg1
        have q3 : w10.cell? ⟨w7.heap.size, 3, none⟩ = some (.int .i64 r4) := cell_of_row w10 _ 3 _ _ _ hg1
        have v0 : w10.cell? ⟨w9.heap.size, 0, none⟩ = some (.int .i64 r1) := cell_of_row w10 _ 0 _ _ _ hg2
        have v1 : w10.cell? ⟨w9.heap.size, 1, none⟩ = some (.int .i64 r2) := cell_of_row w10 _ 1 _ _ _ hg2
        have v2 : w10.cell? ⟨w9.heap.size, 2, none⟩ = some (.int .i64 r3) := cell_of_row w10 _ 2 _ _ _ hg2
        have v3 : w10.cell? ⟨w9.heap.size, 3, none⟩ = some (.int .i64 r4) := cell_of_row w10 _ 3 _ _ _ hg2
        have hoc := ocNe_self ⟨r1, r2, r3, r4⟩
        clear hg1 hg2
        go_wp2_with fail
        refine (alike_any w10 p m s' F' W' M' HBo10.out.st HBo10.out.mt (by have := HBo10.out.lL; omega) (by have := HBo10.out.lT; omega) (fun o ho => Nat.le_trans (HBo10.out.str o ho) (by decide)) HBo10.out.st.okL).mono ?_
        rintro e w11 ⟨rfl, hB11⟩
        have HBo11 := Lib.hid (HBo10.out.fresh hB11)
        clear hB11 hoc q0 q1 q2 q3 v0 v1 v2 v3
        go_wp2_with fail
        go_roundw
        case rel => exact ⟨k + 1, s', F', W', M', hlt, by go_num, HBo11.out⟩
        case measure => simp [RowKit.intOf]; omega
      · have d1 : (pos0 == (k : Int) + 1) = false := by simp [hpk]
        have HBo := HBo5
        have HBZ := Lib.hid HBo.out.bel
        clear hpk
        go_upto_region 18 with (fail)
        clear y0 g0 d1
        as_aux_lemma =>
        have y0 : w5.cell? ⟨wf.heap.size, 0, none⟩ = some (.int .i64 (pos0)) := cell_of_row w5 _ 0 _ _ _ HE.out
        have y1 : w5.cell? ⟨wf.heap.size, 1, none⟩ = some (.int .i64 a.epoch) := cell_of_row w5 _ 1 _ _ _ HE.out
        have y2 : w5.cell? ⟨wf.heap.size, 2, none⟩ = some (.string a.stream) := cell_of_row w5 _ 2 _ _ _ HE.out
        have y3 : w5.cell? ⟨wf.heap.size, 3, none⟩ = some (.int .i64 a.expect) := cell_of_row w5 _ 3 _ _ _ HE.out
        have y4 : w5.cell? ⟨wf.heap.size, 4, none⟩ = some (.int .i64 a.session) := cell_of_row w5 _ 4 _ _ _ HE.out
        have y5 : w5.cell? ⟨wf.heap.size, 5, none⟩ = some (.int .i64 a.seq) := cell_of_row w5 _ 5 _ _ _ HE.out
        have y6 : w5.cell? ⟨wf.heap.size, 6, none⟩ = some (.slice B a.evs.length d) := cell_of_row w5 _ 6 _ _ _ HE.out
        have HBt := Lib.hid (HEV.out w5 HBZ.out (pos0))
        have hcall := apply_any w5 (HTb.out.fresh HBZ.out) p s F W HBo.out.st _ (a.at_ (pos0)) (HBt.out.1) (fun q hq e => by have := HBo.out.fl q (HBo.out.st.wf q e); omega) (by have := HBo.out.ap; omega) (by have := HBo.out.lL; show _ + a.evs.length ≤ _; omega) (by have := HBo.out.lT; omega)
        rw [show (a.at_ (pos0)).evv = .slice B a.evs.length d from HV.out] at hcall
        rcases hrr : applyS s (a.at_ (pos0)) with ⟨s', ⟨r1, r2, r3, r4⟩, r5⟩
        rw [hrr] at hcall
        have HC := Lib.hid hcall
        have HRR := Lib.hid hrr
        clear hcall hrr
        go_wp2_with fail
        refine HC.out.mono ?_
        rintro e w7 ⟨rfl, hAp⟩
        have HAp := Lib.hid hAp
        have HMt := Lib.hid (HBo.out.after hAp)
        have HE7 := Lib.hid (HBo.out.keepE hAp HE.out HNW.out)
        have HBZ7 := Lib.hid (HBo.out.belApp hAp)
        have hB8 : Below w7.heap.size w7 (w7.alloc (.cells #[.int .i64 r1, .int .i64 r2, .int .i64 r3, .int .i64 r4] 35)) := (Below.refl _ _).alloc (Nat.le_refl _) _
        have hg1 := heap_alloc_new w7 (.cells #[.int .i64 r1, .int .i64 r2, .int .i64 r3, .int .i64 r4] 35)
        clear hAp y0 y1 y2 y3 y4 y5 y6
        go_upto_region 19 with (fail)
        generalize w7.alloc (.cells #[.int .i64 r1, .int .i64 r2, .int .i64 r3, .int .i64 r4] 35) = w8 at hB8 hg1 ⊢
        have HB8 := Lib.hid hB8
        have HG1 := Lib.hid hg1
        have hE8 := (Keeps.of_fresh hB8 (fun _ => False)).grownTo HE7.out id
        have HE8 := Lib.hid hE8
        have y0 : w8.cell? ⟨wf.heap.size, 0, none⟩ = some (.int .i64 (pos0)) := cell_of_row w8 _ 0 _ _ _ hE8
        have y1 : w8.cell? ⟨wf.heap.size, 1, none⟩ = some (.int .i64 a.epoch) := cell_of_row w8 _ 1 _ _ _ hE8
        have y2 : w8.cell? ⟨wf.heap.size, 2, none⟩ = some (.string a.stream) := cell_of_row w8 _ 2 _ _ _ hE8
        have y3 : w8.cell? ⟨wf.heap.size, 3, none⟩ = some (.int .i64 a.expect) := cell_of_row w8 _ 3 _ _ _ hE8
        have y4 : w8.cell? ⟨wf.heap.size, 4, none⟩ = some (.int .i64 a.session) := cell_of_row w8 _ 4 _ _ _ hE8
        have y5 : w8.cell? ⟨wf.heap.size, 5, none⟩ = some (.int .i64 a.seq) := cell_of_row w8 _ 5 _ _ _ hE8
        have y6 : w8.cell? ⟨wf.heap.size, 6, none⟩ = some (.slice B a.evs.length d) := cell_of_row w8 _ 6 _ _ _ hE8
        have hcall := mapply_any w8 m s M (HMt.out.fresh hB8) _ (a.at_ (pos0)) ((HEV.out w8 (HBZ7.out.trans (hB8.mono HBZ7.out.size)) (pos0)).2) (fun q hq e => by have := HBo.out.ml q e; omega) (by have := HBo.out.ap; omega) (by have := HBo.out.lL; show _ + a.evs.length ≤ _; omega) (by have := HBo.out.lT; omega)
        rw [show (a.at_ (pos0)).evv = .slice B a.evs.length d from HV.out, HRR.out] at hcall
        have HC := Lib.hid hcall
        clear hcall hB8 hg1 hE8
        go_wp2_with fail
        refine HC.out.mono ?_
        rintro e w9 ⟨rfl, hMp⟩
        obtain ⟨F', W', M', hBo9⟩ := HBo.out.step HAp.out HB8.out hMp HRR.out HFE.out
        have hg1 := hMp.2.grownTo HG1.out (by
          have := HMt.out.lt
          exact fun e => by have := this _ e; omega)
        have hB10 : Below w9.heap.size w9 (w9.alloc (.cells #[.int .i64 r1, .int .i64 r2, .int .i64 r3, .int .i64 r4] 35)) := (Below.refl _ _).alloc (Nat.le_refl _) _
        have hg2 := heap_alloc_new w9 (.cells #[.int .i64 r1, .int .i64 r2, .int .i64 r3, .int .i64 r4] 35)
        have hg1 := (Keeps.of_fresh hB10 (fun _ => False)).grownTo hg1 id
        have HBo10 := Lib.hid (hBo9.fresh hB10)
        clear hMp hBo9 hB10 y0 y1 y2 y3 y4 y5 y6
        go_upto_region 20 with (fail)
        generalize w9.alloc (.cells #[.int .i64 r1, .int .i64 r2, .int .i64 r3, .int .i64 r4] 35) = w10 at hg1 hg2 HBo10 ⊢
        have q0 : w10.cell? ⟨w7.heap.size, 0, none⟩ = some (.int .i64 r1) := cell_of_row w10 _ 0 _ _ _ hg1
        have q1 : w10.cell? ⟨w7.heap.size, 1, none⟩ = some (.int .i64 r2) := cell_of_row w10 _ 1 _ _ _ hg1
        have q2 : w10.cell? ⟨w7.heap.size, 2, none⟩ = some (.int .i64 r3) := cell_of_row w10 _ 2 _ _ _ hg1
        have q3 : w10.cell? ⟨w7.heap.size, 3, none⟩ = some (.int .i64 r4) := cell_of_row w10 _ 3 _ _ _ hg1
        have v0 : w10.cell? ⟨w9.heap.size, 0, none⟩ = some (.int .i64 r1) := cell_of_row w10 _ 0 _ _ _ hg2
        have v1 : w10.cell? ⟨w9.heap.size, 1, none⟩ = some (.int .i64 r2) := cell_of_row w10 _ 1 _ _ _ hg2
        have v2 : w10.cell? ⟨w9.heap.size, 2, none⟩ = some (.int .i64 r3) := cell_of_row w10 _ 2 _ _ _ hg2
        have v3 : w10.cell? ⟨w9.heap.size, 3, none⟩ = some (.int .i64 r4) := cell_of_row w10 _ 3 _ _ _ hg2
        have hoc := ocNe_self ⟨r1, r2, r3, r4⟩
        clear hg1 hg2
        go_wp2_with fail
        refine (alike_any w10 p m s' F' W' M' HBo10.out.st HBo10.out.mt (by have := HBo10.out.lL; omega) (by have := HBo10.out.lT; omega) (fun o ho => Nat.le_trans (HBo10.out.str o ho) (by decide)) HBo10.out.st.okL).mono ?_
        rintro e w11 ⟨rfl, hB11⟩
        have HBo11 := Lib.hid (HBo10.out.fresh hB11)
        clear hB11 hoc q0 q1 q2 q3 v0 v1 v2 v3
        go_wp2_with fail
        go_roundw
        case rel => exact ⟨k + 1, s', F', W', M', hlt, by go_num, HBo11.out⟩
        case measure => simp [RowKit.intOf]; omega
    · have hkd : k = R.length := by omega
      subst hkd
      go_wp2_with fail
      go_ret
      exact ⟨rfl, HBo.out.bel⟩
end Go.Proofs.YtlfhokcjbgpjhaaGreatDoor

/- Play, of both states. Under the tables that utf8 lays. -/
namespace Go.Proofs.YtlfhokcjbgpjhaaGreatDoor
open Go.RowKit Go.Bl
attribute [local go_sem ↓] Go.wp_at_zero Go.wp_at_succ

/-- What entries make of a state, up to the first that is refused. -/
def playS : St → List Ent → St × Int
  | s, [] => (s, 0)
  | s, a :: l => if (applyS s a).2.2 = 0 then playS (applyS s a).1 l else (s, (applyS s a).2.2)
theorem play_drop {L : List Ent} {k : Nat} {s : St} (h : k < L.length) : playS s (L.drop k) = if (applyS s L[k]).2.2 = 0 then playS (applyS s L[k]).1 (L.drop (k + 1)) else (s, (applyS s L[k]).2.2) := by
  rw [List.drop_eq_getElem_cons h]
  rfl
theorem play_prefix : ∀ (A B : List Ent) (s : St), (playS s (A ++ B)).2 = 0 → (playS s A).2 = 0 ∧ playS (playS s A).1 B = playS s (A ++ B)
  | [], B, s, _ => ⟨rfl, rfl⟩
  | a :: A, B, s, h => by
    simp only [List.cons_append, playS] at h ⊢
    split
    · rename_i h0
      rw [if_pos h0] at h
      exact play_prefix A B _ h
    · rename_i h0
      rw [if_neg h0] at h
      exact absurd h h0
/-- A row of entries that fit. -/
structure RowIn (w : World) (u : Value) (R : List EntS) : Prop where
  row : Sl w (fun b => b < w.heap.size) 7 ensc u R
  ok : ∀ a ∈ R, entF a.val = true ∧ EntOk w (fun b => b < w.heap.size) a.val
  len : R.length ≤ 40
theorem RowIn.fresh {w w' : World} {u : Value} {R : List EntS} (h : RowIn w u R) (hB : Below w.heap.size w w') : RowIn w' u R :=
  ⟨(h.row.fresh hB).mono (fun _ hb _ => hb), fun a ha => ⟨(h.ok a ha).1, by
    have h0 := (h.ok a ha).2.fresh hB
    exact ⟨h0.1.mono (fun _ hb _ => hb), h0.2⟩⟩, h.len⟩
/-- What is known of a state behind k entries. -/
structure Went (s : St) (k : Nat) : Prop where
  lL : s.L.length ≤ 8 * k
  lT : s.T.length ≤ k
  ap : s.ap = k
  str : ∀ o ∈ s.L, o.stream.size ≤ 300
theorem Went.start : Went St.new 0 := ⟨by simp [St.new], by simp [St.new], rfl, by simp [St.new]⟩
theorem Went.step {s : St} {k : Nat} (h : Went s k) {a : Ent} (ha : a.stream.size ≤ 300) (he : (applyS s a).2.2 = 0) : Went (applyS s a).1 (k + 1) := by
  obtain ⟨g1, g2, g3, g4⟩ := apply_grows s a
  have := h.lL
  have := h.lT
  have := h.ap
  have := g4 he
  exact ⟨by omega, by omega, by omega, apply_str h.str ha⟩
/-- What Play hands back. -/
def PlayPost (w : World) (r : St × Int) (k : Nat) (X : World → Nat → St → (Nat → Prop) → Prop) (e : Ending) (w' : World) : Prop :=
  (r.2 = 0 → ∃ p F, e = .returned (.tuple #[.pointer (some ⟨p, 0, none⟩), .int .i64 0]) ∧ X w' p r.1 F ∧ (∀ j, F j → w.heap.size ≤ j) ∧ Went r.1 k) ∧
  (r.2 ≠ 0 → e = .returned (.tuple #[.pointer none, .int .i64 r.2])) ∧ Below w.heap.size w w'
theorem PlayPost.good {w w' : World} {r : St × Int} {k p : Nat} {X : World → Nat → St → (Nat → Prop) → Prop} {F : Nat → Prop} {s : St} (hr : r = (s, 0)) (hX : X w' p s F) (hF : ∀ j, F j → w.heap.size ≤ j) (hW : Went s k) (hB : Below w.heap.size w w') :
    PlayPost w r k X (.returned (.tuple #[.pointer (some ⟨p, 0, none⟩), .int .i64 0])) w' := by
  subst hr
  exact ⟨fun _ => ⟨p, F, rfl, hX, hF, hW⟩, fun h => absurd rfl h, hB⟩
theorem PlayPost.bad {w w' : World} {r : St × Int} {k : Nat} {X : World → Nat → St → (Nat → Prop) → Prop} {s : St} {n : Int} (hr : r = (s, n)) (hn : n ≠ 0) (hB : Below w.heap.size w w') : PlayPost w r k X (.returned (.tuple #[.pointer none, .int .i64 n])) w' := by
  subst hr
  exact ⟨fun h => absurd h hn, fun _ => rfl, hB⟩

def MRel (w : World) (m : Nat) (R : List EntS) (i : Value) (wr : World) : Prop :=
  ∃ (k : Nat) (s : St) (F : Nat → Prop), k ≤ R.length ∧ i = .int .i64 k ∧ MtAt wr m s F ∧ (∀ j, F j → w.heap.size ≤ j) ∧ Went s k ∧ playS s ((R.map EntS.val).drop k) = playS St.new (R.map EntS.val) ∧ Below w.heap.size w wr
set_option maxRecDepth 10000 in
set_option maxHeartbeats 4000000 in
theorem mplay_any (w : World) (u : Value) (R : List EntS) (h : RowIn w u R) :
    Calls Tryz.prog 9 #[u] w (PlayPost w (playS St.new (R.map EntS.val)) R.length MtAt) := by
  obtain ⟨A, c, rfl, hA1, hA2⟩ := h.row.shape
  unfold maxLen at hA2
  have hl := h.len
  have HR := Lib.hid h
  have HOK := Lib.hid h.ok
  obtain ⟨r, hr⟩ : ∃ r, playS St.new (R.map EntS.val) = r := ⟨_, rfl⟩
  rw [hr]
  have HRR := Lib.hid hr
  clear h hr
  go_enter Tryz.func9, Tryz.ntmps9
  go_wp2_with fail
  refine (mnew_any w).mono ?_
  rintro e w1 ⟨m, rfl, hM, hB⟩
  have HM := Lib.hid hM
  have HB := Lib.hid hB
  clear hM hB
  go_wp2_with fail
  go_loopw [5] (fun i wr => MRel w m R i wr) (fun i _ => R.length - (RowKit.intOf i).toNat)
  case atStart => exact ⟨0, St.new, _, Nat.zero_le _, rfl, HM.out, fun j hj => hj.1, Went.start, rfl, HB.out⟩
  case round =>
    obtain ⟨k, s, F, hk, rfl, hM, hF, hW, hP, hB⟩ := hrel
    have HM := Lib.hid hM
    have HF := Lib.hid hF
    have HW := Lib.hid hW
    have HP := Lib.hid (hP.symm.trans rfl)
    have HB := Lib.hid hB
    clear hM hF hW hP hB
    by_cases hlt : k < R.length
    ·
      obtain ⟨b, o, rfl, _, _, hxx⟩ := (HR.out.row.fresh HB.out).cell_ hlt
      have hxx : ∀ (i : Nat) (u : Value), (entc R[k].val)[i]? = some u → wr.cell? ⟨b, o + k * 7 + i, none⟩ = some u := hxx
      have hok := HOK.out R[k] (List.getElem_mem hlt)
      obtain ⟨a, ha⟩ : ∃ a, R[k].val = a := ⟨_, rfl⟩
      rw [ha] at hxx hok
      obtain ⟨B, d, hv, _, _⟩ := hok.2.1.shape
      have x0 := hxx 0 _ rfl
      have x1 := hxx 1 _ rfl
      have x2 := hxx 2 _ rfl
      have x3 := hxx 3 _ rfl
      have x4 := hxx 4 _ rfl
      have x5 := hxx 5 _ rfl
      have x6 := hxx 6 _ rfl
      rw [hv] at x6
      simp only [Nat.add_zero] at x0
      have HFE := Lib.hid (entF_at hok.1).1
      have hevl := (entF_at hok.1).2.1
      have HV := Lib.hid hv
      have hpl := play_drop (L := R.map EntS.val) (k := k) (s := s) (by simpa using hlt)
      rw [List.getElem_map, ha] at hpl
      rw [HP.out.symm, HRR.out] at hpl
      have hlT := HW.out.lT
      have hlL := HW.out.lL
      have hap := HW.out.ap
      have hcall := mapply_any wr m s F HM.out _ a ((hok.2.fresh HB.out).small hok.1) (fun q hq e => by have := HF.out q e; omega) (by omega) (by omega) (by omega)
      rw [hv] at hcall
      rcases hrr : applyS s a with ⟨s', ⟨r1, r2, r3, r4⟩, r5⟩
      rw [hrr] at hcall hpl
      have HC := Lib.hid hcall
      have HPL := Lib.hid hpl
      have HS := Lib.hid hrr
      clear hxx hok ha hv hcall hpl hrr
      go_wp2_with fail
      refine HC.out.mono ?_
      rintro e w2 ⟨rfl, hAp⟩
      have hB2 : Below w.heap.size w w2 := Below.keep HB.out hAp.2 HB.out.size (fun j hj => HF.out j hj)
      have hB3 : Below w2.heap.size w2 (w2.alloc (.cells #[.int .i64 r1, .int .i64 r2, .int .i64 r3, .int .i64 r4] 35)) := (Below.refl _ _).alloc (Nat.le_refl _) _
      have HM3 := Lib.hid (hAp.1.fresh hB3)
      have HB3 := Lib.hid (hB2.trans (hB3.mono hB2.size))
      clear hAp hB2 hB3
      by_cases h5 : r5 = 0
      · subst h5
        have hw' := HW.out.step (a := a) HFE.out (by rw [HS.out])
        rw [HS.out] at hw'
        have HW' := Lib.hid hw'
        clear hw'
        go_wp2_with fail
        go_roundw
        case rel =>
          have hp := HPL.out
          rw [if_pos trivial] at hp
          refine ⟨k + 1, s', _, hlt, by go_num, HM3.out, fun j hj => ?_, HW'.out, hp.symm.trans HRR.out.symm, HB3.out⟩
          rcases hj with hj | hj
          · exact HF.out j hj
          · exact Nat.le_trans HB.out.size hj.1
        case measure => simp [RowKit.intOf]; omega
      · have d5 : (r5 != 0) = true := by simp [h5]
        have H5 := Lib.hid h5
        clear h5
        go_wp2_with fail
        go_ret2
        have hp := HPL.out
        rw [if_neg (show ¬ (s', (⟨r1, r2, r3, r4⟩ : Ded.Oc), r5).2.2 = 0 from H5.out)] at hp
        exact PlayPost.bad hp H5.out HB3.out
    · have hkd : k = R.length := by omega
      subst hkd
      go_wp2_with fail
      go_ret2
      have hp := HP.out
      rw [List.drop_of_length_le (by simp)] at hp
      exact PlayPost.good (HRR.out.symm.trans hp) HM.out HF.out HW.out HB.out
def SRel (w : World) (m : Nat) (R : List EntS) (i : Value) (wr : World) : Prop :=
  ∃ (k : Nat) (s : St) (F W : Nat → Prop), k ≤ R.length ∧ i = .int .i64 k ∧ StAt wr m s F W ∧ (∀ j, F j → w.heap.size ≤ j) ∧ Went s k ∧ playS s ((R.map EntS.val).drop k) = playS St.new (R.map EntS.val) ∧ Below w.heap.size w wr
set_option maxRecDepth 10000 in
set_option maxHeartbeats 4000000 in
theorem splay_any (w : World) (hT : Tabs w) (u : Value) (R : List EntS) (h : RowIn w u R) :
    Calls Tryz.prog 10 #[u] w (PlayPost w (playS St.new (R.map EntS.val)) R.length (fun w p s F => ∃ W, StAt w p s F W)) := by
  obtain ⟨A, c, rfl, hA1, hA2⟩ := h.row.shape
  unfold maxLen at hA2
  have hl := h.len
  have HR := Lib.hid h
  have HOK := Lib.hid h.ok
  have HTb := Lib.hid hT
  obtain ⟨r, hr⟩ : ∃ r, playS St.new (R.map EntS.val) = r := ⟨_, rfl⟩
  rw [hr]
  have HRR := Lib.hid hr
  clear h hr hT
  go_enter Tryz.func10, Tryz.ntmps10
  go_wp2_with fail
  refine (snew_any w).mono ?_
  rintro e w1 ⟨m, W0, rfl, _, _, hM, hB⟩
  have HM := Lib.hid hM
  have HB := Lib.hid hB
  clear hM hB
  go_wp2_with fail
  go_loopw [13] (fun i wr => SRel w m R i wr) (fun i _ => R.length - (RowKit.intOf i).toNat)
  case atStart => exact ⟨0, St.new, _, W0, Nat.zero_le _, rfl, HM.out, fun j hj => hj.1, Went.start, rfl, HB.out⟩
  case round =>
    obtain ⟨k, s, F, W, hk, rfl, hM, hF, hW, hP, hB⟩ := hrel
    have HM := Lib.hid hM
    have HF := Lib.hid hF
    have HW := Lib.hid hW
    have HP := Lib.hid (hP.symm.trans rfl)
    have HB := Lib.hid hB
    clear hM hF hW hP hB
    by_cases hlt : k < R.length
    ·
      obtain ⟨b, o, rfl, _, _, hxx⟩ := (HR.out.row.fresh HB.out).cell_ hlt
      have hxx : ∀ (i : Nat) (u : Value), (entc R[k].val)[i]? = some u → wr.cell? ⟨b, o + k * 7 + i, none⟩ = some u := hxx
      have hok := HOK.out R[k] (List.getElem_mem hlt)
      obtain ⟨a, ha⟩ : ∃ a, R[k].val = a := ⟨_, rfl⟩
      rw [ha] at hxx hok
      obtain ⟨B, d, hv, _, _⟩ := hok.2.1.shape
      have x0 := hxx 0 _ rfl
      have x1 := hxx 1 _ rfl
      have x2 := hxx 2 _ rfl
      have x3 := hxx 3 _ rfl
      have x4 := hxx 4 _ rfl
      have x5 := hxx 5 _ rfl
      have x6 := hxx 6 _ rfl
      rw [hv] at x6
      simp only [Nat.add_zero] at x0
      have HFE := Lib.hid (entF_at hok.1).1
      have hevl := (entF_at hok.1).2.1
      have HV := Lib.hid hv
      have hpl := play_drop (L := R.map EntS.val) (k := k) (s := s) (by simpa using hlt)
      rw [List.getElem_map, ha] at hpl
      rw [HP.out.symm, HRR.out] at hpl
      have hlT := HW.out.lT
      have hlL := HW.out.lL
      have hap := HW.out.ap
      have hB1 : Below wr.heap.size wr (wr.alloc (.cells #[.int .i64 a.pos, .int .i64 a.epoch, .string a.stream, .int .i64 a.expect, .int .i64 a.session, .int .i64 a.seq, .slice B a.evs.length d] 42)) := (Below.refl _ wr).alloc (Nat.le_refl _) _
      have hblk := heap_alloc_new wr (.cells #[.int .i64 a.pos, .int .i64 a.epoch, .string a.stream, .int .i64 a.expect, .int .i64 a.session, .int .i64 a.seq, .slice B a.evs.length d] 42)
      have hokk := hok.2.fresh HB.out
      have hok1 := hok.1
      clear hxx hok ha
      go_upto_region 6 with (fail)
      generalize wr.alloc (.cells #[.int .i64 a.pos, .int .i64 a.epoch, .string a.stream, .int .i64 a.expect, .int .i64 a.session, .int .i64 a.seq, .slice B a.evs.length d] 42) = w2 at hB1 hblk ⊢
      have y0 : w2.cell? ⟨wr.heap.size, 0, none⟩ = some (.int .i64 a.pos) := cell_of_row w2 _ 0 _ _ _ hblk
      have y1 : w2.cell? ⟨wr.heap.size, 1, none⟩ = some (.int .i64 a.epoch) := cell_of_row w2 _ 1 _ _ _ hblk
      have y2 : w2.cell? ⟨wr.heap.size, 2, none⟩ = some (.string a.stream) := cell_of_row w2 _ 2 _ _ _ hblk
      have y3 : w2.cell? ⟨wr.heap.size, 3, none⟩ = some (.int .i64 a.expect) := cell_of_row w2 _ 3 _ _ _ hblk
      have y4 : w2.cell? ⟨wr.heap.size, 4, none⟩ = some (.int .i64 a.session) := cell_of_row w2 _ 4 _ _ _ hblk
      have y5 : w2.cell? ⟨wr.heap.size, 5, none⟩ = some (.int .i64 a.seq) := cell_of_row w2 _ 5 _ _ _ hblk
      have y6 : w2.cell? ⟨wr.heap.size, 6, none⟩ = some (.slice B a.evs.length d) := cell_of_row w2 _ 6 _ _ _ hblk
      have HB1 := Lib.hid (HB.out.trans (hB1.mono HB.out.size))
      have HM1 := Lib.hid (HM.out.fresh hB1)
      have hcall := apply_any w2 (HTb.out.fresh HB1.out) m s F W HM1.out _ a ((hokk.fresh hB1).batch hok1) (fun q hq e => by have := HF.out q (HM.out.wf q e); omega) (by omega) (by omega) (by omega)
      rw [hv] at hcall
      rcases hrr : applyS s a with ⟨s', ⟨r1, r2, r3, r4⟩, r5⟩
      rw [hrr] at hcall hpl
      have HC := Lib.hid hcall
      have HPL := Lib.hid hpl
      have HS := Lib.hid hrr
      clear x0 x1 x2 x3 x4 x5 x6 hok1 hokk hv hcall hpl hrr hB1 hblk
      go_wp2_with fail
      refine HC.out.mono ?_
      rintro e w3 ⟨rfl, hAp⟩
      obtain ⟨F', W', hS3, hF3, _, _, hB3⟩ := hAp.below HB1.out HM1.out HF.out
      have hB4 : Below w3.heap.size w3 (w3.alloc (.cells #[.int .i64 r1, .int .i64 r2, .int .i64 r3, .int .i64 r4] 35)) := (Below.refl _ _).alloc (Nat.le_refl _) _
      have HM3 := Lib.hid (hS3.fresh hB4)
      have HF3 := Lib.hid hF3
      have HB3 := Lib.hid (hB3.trans (hB4.mono hB3.size))
      clear hAp hS3 hF3 hB3 hB4 y0 y1 y2 y3 y4 y5 y6
      by_cases h5 : r5 = 0
      · subst h5
        have hw' := HW.out.step (a := a) HFE.out (by rw [HS.out])
        rw [HS.out] at hw'
        have HW' := Lib.hid hw'
        clear hw'
        go_wp2_with fail
        go_roundw
        case rel =>
          have hp := HPL.out
          rw [if_pos trivial] at hp
          exact ⟨k + 1, s', F', W', hlt, by go_num, HM3.out, HF3.out, HW'.out, hp.symm.trans HRR.out.symm, HB3.out⟩
        case measure => simp [RowKit.intOf]; omega
      · have d5 : (r5 != 0) = true := by simp [h5]
        have H5 := Lib.hid h5
        clear h5
        go_wp2_with fail
        go_ret2
        have hp := HPL.out
        rw [if_neg (show ¬ (s', (⟨r1, r2, r3, r4⟩ : Ded.Oc), r5).2.2 = 0 from H5.out)] at hp
        exact PlayPost.bad hp H5.out HB3.out
    · have hkd : k = R.length := by omega
      subst hkd
      go_wp2_with fail
      go_ret2
      have hp := HP.out
      rw [List.drop_of_length_le (by simp)] at hp
      exact PlayPost.good (HRR.out.symm.trans hp) ⟨W, HM.out⟩ HF.out HW.out HB.out
end Go.Proofs.YtlfhokcjbgpjhaaGreatDoor

namespace Go.Proofs.YtlfhokcjbgpjhaaGreatDoor
open Go.RowKit Go.Bl
attribute [local go_sem ↓] Go.wp_at_zero Go.wp_at_succ

theorem sizeEntry (w : World) : (sizeOf 42).run Tryz.prog w = .ok 7 w := by kernel_rfl
theorem Went.alike {s : St} {n : Nat} (h : Went s n) (hn : n ≤ 40) : s.L.length ≤ 1000000 ∧ s.T.length ≤ 1000000 ∧ ∀ o ∈ s.L, o.stream.size ≤ 1000000 := by
  have := h.lL
  have := h.lT
  exact ⟨by omega, by omega, fun o ho => Nat.le_trans (h.str o ho) (by decide)⟩
set_option maxRecDepth 10000 in
set_option maxHeartbeats 4000000 in
theorem cuts_any (w : World) (hT : Tabs w) (v : Value) (l : List Ent) (h : EntsOk w (fun b => b < w.heap.size) v l) (at_ : Int) (hat : -9223372036854775808 ≤ at_ ∧ at_ ≤ 9223372036854775807) :
    Calls Tryz.prog 3 #[v, .int .i64 at_] w fun x w' => x = .returned (.bool true) ∧ Below w.heap.size w w' := by
  obtain ⟨A, c, rfl, hA1, hA2⟩ := h.1.shape
  unfold maxLen at hA2
  have HTb := Lib.hid hT
  have HA := Lib.hid h
  clear hT h
  go_enter Tryz.func3, Tryz.ntmps3
  go_wp2_with fail
  refine (shown_any w HTb.out).mono ?_
  rintro e wa ⟨rfl, hBa⟩
  have HBa := Lib.hid hBa
  clear hBa
  go_wp2_with fail
  refine (fits_all wa _ _ l (HA.out.fresh HBa.out)).mono ?_
  rintro x wb ⟨rfl, hBb⟩
  have HBb := Lib.hid (HBa.out.trans (hBb.mono HBa.out.size))
  clear hBb
  cases hfb : fitsB l
  · go_wp2_with fail
    go_ret
    exact ⟨rfl, HBb.out⟩
  have HFB := Lib.hid hfb
  clear hfb
  have hl40 := (fitsB_at HFB.out).1
  go_wp2_with fail
  refine (row_any wb _ l (by
    have h0 := HA.out.fresh HBb.out
    exact ⟨h0.1.mono (fun k hk _ => hk), fun a ha => ⟨(h0.2 a ha).1.mono (fun k hk _ => hk), (h0.2 a ha).2⟩⟩) 6 (by decide) (by omega) (fun a ha => by have := (entF_at ((fitsB_at HFB.out).2 a ha)).2.1; omega)).mono ?_
  rintro e wc ⟨u, R, rfl, hRl, hO, hPl, hBc⟩
  have HBc := Lib.hid (HBb.out.trans (hBc.mono HBb.out.size))
  have hR : RowIn wc u R := by
    refine ⟨(hO.sl elEns.len).mono (fun b hb _ => hb), fun a ha => ?_, by omega⟩
    obtain ⟨i, hi, rfl⟩ := List.mem_iff_getElem.1 ha
    have hil : i < l.length := by omega
    have hok := (HA.out.2 l[i] (List.getElem_mem hil)).fresh HBc.out
    have hfe := (fitsB_at HFB.out).2 l[i] (List.getElem_mem hil)
    rcases hPl i hi hil with e | e <;> rw [e]
    · exact ⟨hfe, hok.1.mono (fun b hb _ => hb), hok.2⟩
    · exact ⟨hfe, hok.1.mono (fun b hb _ => hb), hok.2.1, hok.2.2.1, by show -9223372036854775808 ≤ (i : Int) + 1 ∧ (i : Int) + 1 ≤ 9223372036854775807; omega⟩
  obtain ⟨Au, cu, rfl, hu1, hu2⟩ := hO.shape_ (n := R.length) rfl
  unfold maxLen at hu2
  have HR := Lib.hid hR
  have hR40 : R.length ≤ 40 := by omega
  have hmp := mplay_any wc _ R hR
  have hsp := fun wz (hz : Below wc.heap.size wc wz) => splay_any wz (HTb.out.fresh (HBc.out.trans (hz.mono HBc.out.size))) _ R (hR.fresh hz)
  rcases hrr : playS St.new (R.map EntS.val) with ⟨sf, rn⟩
  rw [hrr] at hmp hsp
  have HMP := Lib.hid hmp
  have HSP := Lib.hid hsp
  have HRR := Lib.hid hrr
  clear hR hO hRl hPl hBc hmp hsp hrr
  go_wp2_with fail
  refine HMP.out.mono ?_
  rintro e w1 ⟨hok, hbad, hB1⟩
  have HB1 := Lib.hid hB1
  by_cases h0 : rn = 0
  · subst h0
    obtain ⟨m, M, rfl, hM, hMF, hWt⟩ := hok rfl
    have HM := Lib.hid hM
    have HMF := Lib.hid hMF
    have HWt := Lib.hid hWt
    clear hok hbad hB1 hM hMF hWt
    go_wp2_with fail
    refine (HSP.out w1 HB1.out).mono ?_
    rintro e w2 ⟨hok, _, hB2⟩
    obtain ⟨p, F, rfl, ⟨W, hS⟩, hSF, _⟩ := hok rfl
    have HS := Lib.hid hS
    have HM2 := Lib.hid (HM.out.fresh hB2)
    have HB2 := Lib.hid (HBc.out.trans ((HB1.out.trans (hB2.mono HB1.out.size)).mono HBc.out.size))
    have HR2 := Lib.hid (HR.out.fresh (HB1.out.trans (hB2.mono HB1.out.size)))
    have hpk := pick_any w2 at_ hat (R.length + 1) (by omega) (by omega)
    rw [show ((R.length + 1 : Nat) : Int) = (R.length : Int) + 1 by omega] at hpk
    have HPK := Lib.hid hpk
    clear hok hB2 hS hSF HM HMF HMP HR hpk
    go_wp2_with fail
    refine HPK.out.mono ?_
    rintro e wz ⟨j, hj, rfl, rfl⟩
    have hcut : ∀ w, (Instr.slice 22 (.slice Au R.length cu) none (some (.int .i64 j)) none).run Tryz.prog w = .ok (.slice (cutA Au cu 0 7) j cu) w := fun w => by
      simpa using run_cut_high (P := Tryz.prog) Tryz.underlying22 sizeEntry Au R.length cu (j : Int) (by omega) (by omega) w
    have hR3 : RowIn w2 (.slice (cutA Au cu 0 7) j cu) (R.take j) :=
      ⟨HR2.out.row.take_ (by omega), fun a ha => HR2.out.ok a (List.mem_of_mem_take ha), by rw [List.length_take]; omega⟩
    obtain ⟨hp1, hp2⟩ := play_prefix ((R.map EntS.val).take j) ((R.map EntS.val).drop j) St.new (by rw [List.take_append_drop, HRR.out])
    rw [List.take_append_drop, HRR.out] at hp2
    have hsp := splay_any w2 (HTb.out.fresh HB2.out) _ (R.take j) hR3
    rw [List.map_take] at hsp
    rcases hst : playS St.new ((R.map EntS.val).take j) with ⟨st, rt⟩
    rw [hst] at hsp hp1 hp2
    have hp1 : rt = 0 := hp1
    subst hp1
    rw [List.length_take, Nat.min_eq_left (by omega)] at hsp
    have HSP3 := Lib.hid hsp
    have HP2 := Lib.hid hp2
    clear hsp hst hp2 hR3
    go_wp2_with fail
    refine HSP3.out.mono ?_
    rintro e w3 ⟨hok, _, hB3⟩
    obtain ⟨t, Ft, rfl, ⟨Wt, hSt⟩, hFt, hWt⟩ := hok rfl
    have HSt := Lib.hid hSt
    have HFt := Lib.hid hFt
    have HWj := Lib.hid hWt
    have HB3 := Lib.hid hB3
    have hjR : j ≤ R.length := by omega
    clear hok hSt hFt hWt hB3 hcut
    go_wp2_with fail
    go_loopw [15] (fun i wr => ∃ (k : Nat) (s : St) (F W : Nat → Prop), k ≤ R.length ∧ i = .int .i64 k ∧ StAt wr t s F W ∧ (∀ j, F j → w2.heap.size ≤ j) ∧ Went s k ∧ playS s ((R.map EntS.val).drop k) = (sf, 0) ∧ Below w2.heap.size w2 wr) (fun i _ => R.length - (RowKit.intOf i).toNat)
    case atStart => exact ⟨j, st, Ft, Wt, hjR, rfl, HSt.out, HFt.out, HWj.out, HP2.out, HB3.out⟩
    case round =>
      obtain ⟨k, s, Fs, Ws, hk, rfl, hSs, hFs, hWs, hPs, hBs⟩ := hrel
      have HSs := Lib.hid hSs
      have HFs := Lib.hid hFs
      have HWs := Lib.hid hWs
      have HPs := Lib.hid hPs
      have HBs := Lib.hid hBs
      have HBw := Lib.hid (HB2.out.trans (hBs.mono HB2.out.size))
      clear hSs hFs hWs hPs hBs
      by_cases hlt : k < R.length
      · obtain ⟨b, o, rfl, _, _, hxx⟩ := (HR2.out.row.fresh HBs.out).cell_ hlt
        have hxx : ∀ (i : Nat) (u : Value), (entc R[k].val)[i]? = some u → wr.cell? ⟨b, o + k * 7 + i, none⟩ = some u := hxx
        have hok := HR2.out.ok R[k] (List.getElem_mem hlt)
        obtain ⟨a, ha⟩ : ∃ a, R[k].val = a := ⟨_, rfl⟩
        rw [ha] at hxx hok
        obtain ⟨B, d, hv, _, _⟩ := hok.2.1.shape
        have x0 := hxx 0 _ rfl
        have x1 := hxx 1 _ rfl
        have x2 := hxx 2 _ rfl
        have x3 := hxx 3 _ rfl
        have x4 := hxx 4 _ rfl
        have x5 := hxx 5 _ rfl
        have x6 := hxx 6 _ rfl
        rw [hv] at x6
        simp only [Nat.add_zero] at x0
        have HFE := Lib.hid (entF_at hok.1).1
        have hevl := (entF_at hok.1).2.1
        have hpl := play_drop (L := R.map EntS.val) (k := k) (s := s) (by simpa using hlt)
        rw [List.getElem_map, ha, HPs.out] at hpl
        have hlT := HWs.out.lT
        have hlL := HWs.out.lL
        have hap := HWs.out.ap
        have hcall := apply_any wr (HTb.out.fresh HBw.out) t s Fs Ws HSs.out _ a ((hok.2.fresh HBs.out).batch hok.1) (fun q hq e => by have := HFs.out q (HSs.out.wf q e); omega) (by omega) (by omega) (by omega)
        rw [hv] at hcall
        rcases hrr : applyS s a with ⟨s', ⟨r1, r2, r3, r4⟩, r5⟩
        rw [hrr] at hcall hpl
        have h5 : r5 = 0 := by
          apply Decidable.byContradiction
          intro h5
          rw [if_neg (show ¬ (s', (⟨r1, r2, r3, r4⟩ : Ded.Oc), r5).2.2 = 0 from h5)] at hpl
          injection hpl with _ e
          exact h5 e.symm
        subst h5
        rw [if_pos rfl] at hpl
        have hw' := HWs.out.step (a := a) HFE.out (by rw [hrr])
        rw [hrr] at hw'
        have HW' := Lib.hid hw'
        have HC := Lib.hid hcall
        have HPL := Lib.hid hpl
        clear hxx hok ha hv hcall hpl hrr hw'
        go_wp2_with fail
        refine HC.out.mono ?_
        rintro e w4 ⟨rfl, hAp⟩
        obtain ⟨F', W', hS4, hF4, _, _, hB4⟩ := hAp.below HBs.out HSs.out HFs.out
        have hB5 : Below w4.heap.size w4 (w4.alloc (.cells #[.int .i64 r1, .int .i64 r2, .int .i64 r3, .int .i64 r4] 35)) := (Below.refl _ _).alloc (Nat.le_refl _) _
        have HS5 := Lib.hid (hS4.fresh hB5)
        have HF5 := Lib.hid hF4
        have HB5 := Lib.hid (hB4.trans (hB5.mono hB4.size))
        clear hAp hS4 hF4 hB4 hB5 x0 x1 x2 x3 x4 x5 x6
        go_wp2_with fail
        go_roundw
        case rel => exact ⟨k + 1, s', F', W', hlt, by go_num, HS5.out, HF5.out, HW'.out, HPL.out.symm, HB5.out⟩
        case measure => simp [RowKit.intOf]; omega
      · have hkd : k = R.length := by omega
        subst hkd
        have hps := HPs.out
        rw [List.drop_of_length_le (by simp)] at hps
        have hps : (s, (0 : Int)) = (sf, 0) := hps
        injection hps with hs _
        subst hs
        have hbd := HWt.out.alike hR40
        have hap := HWt.out.ap
        have HBD := Lib.hid hbd
        have HAP := Lib.hid hap
        clear hbd hap
        go_wp2_with fail
        refine (alike_any wr p m s F W M (HS.out.fresh HBs.out) (HM2.out.fresh HBs.out) HBD.out.1 HBD.out.2.1 HBD.out.2.2 HS.out.okL).mono ?_
        rintro e w5 ⟨rfl, hB5⟩
        have HB5 := Lib.hid (HBs.out.trans (hB5.mono HBs.out.size))
        have HS5 := Lib.hid (HSs.out.fresh hB5)
        clear hB5
        go_wp2_with fail
        refine (alike_any w5 t m s Fs Ws M HS5.out (HM2.out.fresh HB5.out) HBD.out.1 HBD.out.2.1 HBD.out.2.2 HS.out.okL).mono ?_
        rintro e w6 ⟨rfl, hB6⟩
        have HB6 := Lib.hid (HB5.out.trans (hB6.mono HB5.out.size))
        clear hB6
        have happ := applied_any w6 p s F W (HS.out.fresh HB6.out)
        rw [HAP.out] at happ
        go_wp2_with fail
        refine happ.mono ?_
        rintro e wz ⟨rfl, rfl⟩
        go_wp2_with fail
        go_ret
        exact ⟨rfl, HB2.out.trans (HB6.out.mono HB2.out.size)⟩
  · have he := hbad h0
    subst he
    have H0 := Lib.hid h0
    clear hok hbad hB1 h0
    go_wp2_with fail
    refine (HSP.out w1 HB1.out).mono ?_
    rintro e w2 ⟨_, hbad, hB2⟩
    have he := hbad H0.out
    subst he
    have HB2 := Lib.hid (HB1.out.trans (hB2.mono HB1.out.size))
    clear hbad hB2
    go_wp2_with fail
    go_ret
    exact ⟨rfl, HBc.out.trans (HB2.out.mono HBc.out.size)⟩
end Go.Proofs.YtlfhokcjbgpjhaaGreatDoor
