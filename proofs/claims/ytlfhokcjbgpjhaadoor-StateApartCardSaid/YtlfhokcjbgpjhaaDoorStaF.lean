/- What the statements' loops 'e := l[i]; e.Pos = s.Applied() + 1; s.Apply(e)' keep. No condition. -/
import Derived.Test.YtlfhokcjbgpjhaaDoorStaC
import Derived.Test.YtlfhokcjbgpjhaaDoorStaE
namespace Go.Proofs.YtlfhokcjbgpjhaaDoor
open Go.RowKit Go.Bl

/-- Entries played so far: w is where the arguments lie, I what is known of the state. -/
def PlayRel (I : St → Prop) (w : World) (p n : Nat) (i : Value) (wr : World) : Prop :=
  ∃ (k : Nat) (s : St) (F W : Nat → Prop), k ≤ n ∧ i = .int .i64 k ∧ StAt wr p s F W ∧ (∀ j, F j → w.heap.size ≤ j) ∧ I s ∧ s.L.length ≤ 8 * k ∧ s.T.length ≤ k ∧ (0 ≤ s.ap ∧ s.ap ≤ k) ∧ Below w.heap.size w wr
/-- An entry that stands at another place. -/
def Ent.at_ (a : Ent) (pos : Int) : Ent := { a with pos := pos }
theorem PlayRel.step {I : St → Prop} {w w2 w3 : World} {p n k : Nat} {s : St} {a : Ent} {F W : Nat → Prop} (hk : k < n) (hF : ∀ j, F j → w.heap.size ≤ j) (hB : Below w.heap.size w w2) (h2 : StAt w2 p s F W)
    (hI : I (applyS s a).1) (hL : s.L.length ≤ 8 * k) (hT : s.T.length ≤ k) (ha : 0 ≤ s.ap ∧ s.ap ≤ k) (h : Applied w2 w3 p (applyS s a).1 F W) {i : Value} (hi : i = .int .i64 ((k + 1 : Nat) : Int)) : PlayRel I w p n i w3 := by
  obtain ⟨W', h1, h3, hK⟩ := h
  obtain ⟨g1, g2, g3, _⟩ := apply_grows s a
  refine ⟨k + 1, _, _, W', hk, hi, h3, fun j hj => ?_, hI, by omega, by omega, by omega, ?_⟩
  · rcases hj with hj | hj
    · exact hF j hj
    · exact Nat.le_trans hB.size hj.1
  · exact Below.keep hB hK hB.size (fun j hj => hF j (h2.wf j hj))
theorem Applied.below {w w2 w3 : World} {p : Nat} {s s' : St} {F W : Nat → Prop} (h : Applied w2 w3 p s' F W) (hB : Below w.heap.size w w2) (h2 : StAt w2 p s F W) (hF : ∀ j, F j → w.heap.size ≤ j) :
    ∃ F' W', StAt w3 p s' F' W' ∧ (∀ j, F' j → w.heap.size ≤ j) ∧ (∀ k, W' k → W k ∨ w2.heap.size ≤ k) ∧ Keeps W w2 w3 ∧ Below w.heap.size w w3 := by
  obtain ⟨W', h1, h3, hK⟩ := h
  refine ⟨_, W', h3, fun j hj => ?_, h1, hK, Below.keep hB hK hB.size (fun j hj => hF j (h2.wf j hj))⟩
  rcases hj with hj | hj
  · exact hF j hj
  · exact Nat.le_trans hB.size hj.1

/-! ### What a state expects, in plain words -/
def exE (pos expect : Int) (v : Value) : Ent := ⟨pos, 1, ⟨#[115]⟩, expect, 137438953472, 137438953472, v, List.replicate 3 kEv⟩
theorem exE_right {pos expect : Int} (v : Value) (hp : 1 ≤ pos ∧ pos ≤ 100) (he : -1 ≤ expect ∧ expect ≤ 274877906944) : rightB (exE pos expect v) = true := by
  have hn : nameB ⟨#[115]⟩ = true := by kernel_rfl
  have hk : (List.replicate 3 kEv).any (fun e => !rightE e) = false := by kernel_rfl
  have hnum : numB 137438953472 = true := by decide
  have h1 : numB pos = true := by simp only [numB, Bool.and_eq_true, decide_eq_true_eq]; omega
  have h2 : numB 1 = true := by decide
  have hf : fitsI (exE pos expect v) = 0 := by
    unfold fitsI exE
    simp only [hn, hnum, hk]
    rw [if_neg (by decide), if_neg (by omega), if_neg (by decide), if_neg (by decide), if_neg (by decide), if_neg (by decide), if_neg (by decide)]
  simp only [rightB, hf]
  show (numB pos && (numB 1 && _)) = true
  rw [h1, h2]
  decide
theorem ofS_mk_same (es : List Ev) (s : ByteArray) (p : Int) : Idx.ofS (es.map (Idx.mkOne s p)) s = es.map fun e => (⟨p, e⟩ : Idx.Kp) := by
  induction es with
  | nil => rfl
  | cons e es ih =>
    simp only [List.map_cons]
    rw [show Idx.mkOne s p e :: es.map (Idx.mkOne s p) = [Idx.mkOne s p e] ++ es.map (Idx.mkOne s p) from rfl, Idx.ofS_append, ih]
    simp [Idx.ofS, Idx.mkOne, Idx.One.kp]
theorem ofS_mk_other (es : List Ev) {s t : ByteArray} (h : t ≠ s) (p : Int) : Idx.ofS (es.map (Idx.mkOne t p)) s = [] := by
  simp only [Idx.ofS, List.map_eq_nil_iff, List.filter_eq_nil_iff, List.mem_map]
  rintro o ⟨e, _, rfl⟩
  simp [Idx.mkOne, h]
/-- What is there of the stream behind a batch that is done. -/
theorem ofS_addS (s : St) (a : Ent) : Idx.ofS (addS s a) a.stream = Idx.ofS s.L a.stream ++ a.evs.map fun e => (⟨a.pos, e⟩ : Idx.Kp) := by
  rw [addS, Idx.ofS_append, ofS_mk_same]
theorem expects_done {s : St} {a : Ent} (hr : rightB a = true) (hp : a.pos = s.ap + 1) (hw : (Ded.lookL s.T a.session a.seq).2 = 0) :
    (applyS s a).2.2 = 0 ∧ ((a.expect = -1 ∨ a.expect = ((Idx.ofS s.L a.stream).length : Int)) → (applyS s a).2.1 = ⟨1, a.pos, (Idx.ofS s.L a.stream).length, (Idx.ofS s.L a.stream).length + a.evs.length⟩ ∧
      Idx.ofS (applyS s a).1.L a.stream = Idx.ofS s.L a.stream ++ a.evs.map fun e => (⟨a.pos, e⟩ : Idx.Kp)) ∧
    (¬ (a.expect = -1 ∨ a.expect = ((Idx.ofS s.L a.stream).length : Int)) → (applyS s a).2.1 = ⟨2, a.pos, (Idx.ofS s.L a.stream).length, (Idx.ofS s.L a.stream).length⟩ ∧ Idx.ofS (applyS s a).1.L a.stream = Idx.ofS s.L a.stream) := by
  rcases apply_next hr hp with ⟨o, e1, _⟩ | ⟨e1, _⟩ | ⟨_, _, _, e⟩
  · rw [e1] at hw; cases hw
  · omega
  · rw [e]
    refine ⟨rfl, fun h => ⟨?_, ?_⟩, fun h => ⟨?_, ?_⟩⟩
    · show freshO s a = _
      unfold freshO verS
      rw [if_neg (by omega)]
    · show Idx.ofS (freshL s a) _ = _
      unfold freshL verS
      rw [if_neg (by omega), ofS_addS]
    · show freshO s a = _
      unfold freshO verS
      rw [if_pos (by omega)]
    · show Idx.ofS (freshL s a) _ = _
      unfold freshL verS
      rw [if_pos (by omega)]
theorem apply_ok {s : St} {a : Ent} (hr : rightB a = true) (hp : a.pos = s.ap + 1) : (applyS s a).2.2 = 0 := by
  rcases apply_next hr hp with ⟨o, _, _, _, e⟩ | ⟨_, _, e⟩ | ⟨_, _, _, e⟩ <;> rw [e]
theorem pos_added (l : List Idx.Kp) (e : Ev) (es : List Ev) (p : Int) : Idx.posOf (l ++ (e :: es).map fun e => (⟨p, e⟩ : Idx.Kp)) ((l.length : Int) + 1) = p := by
  unfold Idx.posOf
  rw [if_neg (by rw [List.length_append, List.length_map, List.length_cons]; omega), show ((l.length : Int) + 1 - 1).toNat = l.length by omega]
  simp
end Go.Proofs.YtlfhokcjbgpjhaaDoor
