/- Rows of numbers that grow by one number each, amid a region that draws its order. Under the stated premises on sizes. -/
import Derived.Test.YtoegdpcfhmjnaaaGreatDoorBlR
import Derived.OrdersHeld
import Derived.Test.YtoegdpcfhmjnaaaGreatDoorVwC
import Derived.Great.BuildSlice
/- A region that draws its order: loads that may come first, as long as what stands ahead of the last of them leaves their cells alone; then all in the text's order. Proved for every program; no condition. -/
namespace Go.Bl

section
variable {P : Program} {ops : Array Oper} {md : Region.Mode} {Q : Exit → Act → World → Prop} {S : World → Prop} {n : Nat}

/-- Whatever order is picked; behind each of the first n operations S holds. -/
def wpAnyM (P : Program) (md : Region.Mode) (ops : Array Oper) (Q : Exit → Act → World → Prop) (S : World → Prop) (n : Nat) : Nat → Array Bool → Act → World → Prop
  | 0, listed, a, w => Region.ready md ops listed = [] ∧ Q .normal a w
  | fuel + 1, listed, a, w =>
    (Region.ready md ops listed = [] → Q .normal a w) ∧
    ∀ i ∈ Region.ready md ops listed, wpOp P ops Q i (fun a' w' => (i < n → S w') ∧ wpAnyM P md ops Q S n fuel (listed.setIfInBounds i true) a' w') a w
theorem wpAny_of_M : ∀ (fuel : Nat) (listed : Array Bool) (a : Act) (w : World), wpAnyM P md ops Q S n fuel listed a w → wpAny P md ops Q fuel listed a w
  | 0, _, _, _, h => h
  | fuel + 1, _, _, _, h => ⟨h.1, fun i hi => wpOp_mono (fun a' w' h' => wpAny_of_M fuel _ a' w' h'.2) (h.2 i hi)⟩

theorem wpAnyM_first {i : Nat} {oi : Oper} {v : Value} (hs : Region.sinkB md ops n = true) (hb : behindB md ops n = true) (hn : n < ops.size) (hi : ops[i]? = some oi) (hin : i < n) (hsel : ∀ (j : Nat) (o : Oper) cs b, ops[j]? = some o → o.op ≠ .select cs b)
    (hQ : ∀ c a w, Q (.panic c) (a.put oi.dst v) w → Q (.panic c) a w) :
    ∀ (fuel : Nat) (listed : Array Bool) (a : Act) (w : World), HeadInv md ops n listed →
      (∀ j oj, ops[j]? = some oj → j ≠ i → listed.getD j true = false → (∀ e ∈ oj.after, Region.binds md e = true → e.on ≠ i) → oi.apart ops oj = true) →
      i ∈ Region.ready md ops listed → YieldsIf P ops S oi v a → S w →
      wpAnyM P md ops Q S n fuel (listed.setIfInBounds i true) (a.put oi.dst v) w → wpAnyM P md ops Q S n (fuel + 1) listed a w := by
  intro fuel
  induction fuel with
  | zero =>
    intro listed a w _ _ hr hy hS H
    refine ⟨fun h => (by rw [h] at hr; cases hr), fun j hj => ?_⟩
    by_cases hji : j = i
    · subst hji; exact hy.wpOp hi hS ⟨fun _ => hS, H⟩
    · have := ready_mono hj hji
      rw [H.1] at this
      cases this
  | succ fuel ih =>
    intro listed a w inv hfree hr hy hS H
    refine ⟨fun h => (by rw [h] at hr; cases hr), fun j hj => ?_⟩
    by_cases hji : j = i
    · subst hji; exact hy.wpOp hi hS ⟨fun _ => hS, H⟩
    · have h1 := H.2 j (ready_mono hj hji)
      obtain ⟨hjun, oj, hoj, hall⟩ := mem_ready.1 hj
      have hun := (mem_ready.1 hr).1
      have hjn : j < n := Nat.lt_of_not_le fun h => held_back hs hb inv hn n i (by omega) hin hun j h hj
      have hnot : ∀ e ∈ oj.after, Region.binds md e = true → e.on ≠ i := fun e he hbi heq => not_true_of hun (heq ▸ hall e he hbi)
      have h2 := wpOp_putIf hoj (hfree j oj hoj hji hjun hnot) (fun cs b => hsel i oi cs b hi) (fun cs b => hsel j oj cs b hoj) hQ hy h1
      have hfree' : ∀ k ok, ops[k]? = some ok → k ≠ i → (listed.setIfInBounds j true).getD k true = false →
          (∀ e ∈ ok.after, Region.binds md e = true → e.on ≠ i) → oi.apart ops ok = true := fun k ok hk hki hunk hno => by
        refine hfree k ok hk hki ?_ hno
        by_cases hjk : j = k
        · subst hjk; exact hjun
        · rw [getD_set_ne true hjk] at hunk; exact hunk
      refine wpOp_mono (fun a' w' h3 => ⟨h3.2.1, ih (listed.setIfInBounds j true) a' w' (inv.set hj hjn) hfree' (ready_mono hr (Ne.symm hji)) h3.1 (h3.2.1 hjn) ?_⟩) h2
      rw [Array.setIfInBounds_comm _ _ hji]
      exact h3.2.2

/-- In the text's order; behind each of the first n operations S holds. -/
def wpListS (P : Program) (ops : Array Oper) (Q : Exit → Act → World → Prop) (S : World → Prop) (n : Nat) : Nat → List Oper → Act → World → Prop
  | _, [], a, w => Q .normal a w
  | i, o :: rest, a, w =>
    if Region.wanted o (yielded ops a.tmps) = true then o.wp P a w (fun a' w' => (i < n → S w') ∧ wpListS P ops Q S n (i + 1) rest a' w') Q ∨ (o.asks P a w ∧ LetsOut Q)
    else (i < n → S w) ∧ wpListS P ops Q S n (i + 1) rest (a.put o.dst undef) w
/-- The text's order is the only one. -/
def forcedB (md : Region.Mode) (ops : Array Oper) : Nat → Nat → Array Bool → Bool
  | 0, _, listed => (Region.ready md ops listed).isEmpty
  | f + 1, k, listed => decide (Region.ready md ops listed = [k]) && forcedB md ops f (k + 1) (listed.setIfInBounds k true)
theorem wpAnyM_forced : ∀ (l : List Oper) (k : Nat) (listed : Array Bool) (a : Act) (w : World), (∀ j, l[j]? = ops[k + j]?) → forcedB md ops l.length k listed = true → wpListS P ops Q S n k l a w → wpAnyM P md ops Q S n l.length listed a w
  | [], _, listed, _, _, _, hB, h => ⟨by simpa [forcedB] using hB, h⟩
  | o :: l, k, listed, a, w, hl, hB, h => by
    have h0 : ops[k]? = some o := by simpa using (hl 0).symm
    simp only [List.length_cons, forcedB, Bool.and_eq_true, decide_eq_true_eq] at hB
    obtain ⟨hr, hB'⟩ := hB
    have hrec : ∀ a2 w2, wpListS P ops Q S n (k + 1) l a2 w2 → wpAnyM P md ops Q S n l.length (listed.setIfInBounds k true) a2 w2 := fun a2 w2 h2 =>
      wpAnyM_forced l (k + 1) _ a2 w2 (fun j => by have := hl (j + 1); simpa [Nat.add_assoc, Nat.add_comm 1 j] using this) hB' h2
    refine ⟨fun h0 => (by rw [hr] at h0; cases h0), fun i hi => ?_⟩
    rw [hr] at hi
    obtain rfl : i = k := by simpa using hi
    unfold wpListS at h
    unfold wpOp
    simp only [h0]
    split
    · rename_i hw
      rw [if_pos hw] at h
      exact h.imp (fun h => Oper.wp_mono (fun a2 w2 h3 => ⟨h3.1, hrec a2 w2 h3.2⟩) h) id
    · rename_i hw
      rw [if_neg hw] at h
      exact ⟨h.1, hrec _ _ h.2⟩
/-- Operations that each leave a value in every world that meets S. -/
def YieldsL (P : Program) (ops : Array Oper) (S : World → Prop) : List Oper → Act → Act → Prop
  | [], a, a' => a' = a
  | o :: l, a, a' => ∃ v, YieldsIf P ops S o v a ∧ YieldsL P ops S l (a.put o.dst v) a'
def loadsB (md : Region.Mode) (ops : Array Oper) (g : Nat) : Nat → Nat → Array Bool → Bool
  | 0, k, listed => forcedB md ops g k listed
  | f + 1, k, listed => (Region.ready md ops listed).contains k && Region.free md ops listed k && loadsB md ops g f (k + 1) (listed.setIfInBounds k true)
theorem wpAnyM_loads (hs : Region.sinkB md ops n = true) (hb : behindB md ops n = true) (hn : n < ops.size) (hsel : Region.noSelect ops = true) (hQ : ∀ c a a' w, Q (.panic c) a w → Q (.panic c) a' w) (l : List Oper) :
    ∀ (hd : List Oper) (k : Nat) (listed : Array Bool) (a a' : Act) (w : World), (∀ j, j < hd.length → hd[j]? = ops[k + j]?) → k + hd.length ≤ n → (∀ j, l[j]? = ops[k + hd.length + j]?) → HeadInv md ops n listed → loadsB md ops l.length hd.length k listed = true →
      YieldsL P ops S hd a a' → S w → wpListS P ops Q S n (k + hd.length) l a' w → wpAnyM P md ops Q S n (hd.length + l.length) listed a w
  | [], k, listed, a, a', w, _, _, hl, _, hB, hy, _, h => by
    obtain rfl : a' = a := hy
    rw [List.length_nil, Nat.zero_add]
    exact wpAnyM_forced l k listed a' w (fun j => by simpa using hl j) hB (by simpa using h)
  | o :: hd, k, listed, a, a', w, hh, hk, hl, inv, hB, hy, hS, h => by
    have h0 : ops[k]? = some o := by simpa using (hh 0 (by simp)).symm
    simp only [List.length_cons, loadsB, Bool.and_eq_true] at hB
    obtain ⟨⟨hr, hf⟩, hB'⟩ := hB
    have hr' : k ∈ Region.ready md ops listed := by simpa using hr
    obtain ⟨v, hv, hy'⟩ := hy
    simp only [List.length_cons] at hk hl h ⊢
    have := wpAnyM_loads hs hb hn hsel hQ l hd (k + 1) (listed.setIfInBounds k true) (a.put o.dst v) a' w (fun j hj => by
      have := hh (j + 1) (by simp; omega)
      rw [List.getElem?_cons_succ] at this
      rw [this]; congr 1; omega) (by omega) (fun j => by rw [hl j]; congr 1; omega) (inv.set hr' (by omega)) hB' hy' hS (by rw [show k + 1 + hd.length = k + (hd.length + 1) by omega]; exact h)
    rw [show hd.length + 1 + l.length = (hd.length + l.length) + 1 by omega]
    exact wpAnyM_first hs hb hn h0 (by omega) (Region.noSelect_spec hsel) (fun c a w => hQ c _ _ w) _ listed a w inv (Region.free_spec h0 hf) hr' hv hS this
def firstB (md : Region.Mode) (ops : Array Oper) (n k : Nat) : Bool :=
  Region.noSelect ops && decide (n < ops.size) && decide (k ≤ n) && Region.sinkB md ops n && behindB md ops n && loadsB md ops (ops.size - k) k 0 (Array.replicate ops.size false)
/-- The first k operations load, S being held till the n-th one; the others stand in the text's order. -/
theorem region_loads {id : Nat} {a a' : Act} {w : World} {l : List Oper} (n k : Nat) (S : World → Prop) (hm : P.follows .mixedOrders = true) (hB : firstB .any l.toArray n k = true) (hQ : ∀ c a a' w, Q (.panic c) a w → Q (.panic c) a' w)
    (hS : S { w with drawn := w.drawn + 1 }) (hy : YieldsL P l.toArray S (l.take k) a a')
    (h : wpListS P l.toArray Q S n k (l.drop k) a' { w with drawn := w.drawn + 1 }) : (Code.region id l.toArray true).wp P Q a w := by
  simp only [firstB, Bool.and_eq_true, decide_eq_true_eq] at hB
  obtain ⟨⟨⟨⟨⟨hsel, hn⟩, hkn⟩, hs⟩, hb⟩, hh⟩ := hB
  have hn' : n < l.length := by simpa using hn
  have htl : (l.take k).length = k := by simp; omega
  have hdl : (l.drop k).length = l.toArray.size - k := by simp
  have inv0 : HeadInv .any l.toArray n (Array.replicate l.toArray.size false) :=
    ⟨by simp, fun j oj _ hl => absurd hl (by rw [getD_replicate_false]; exact Bool.false_ne_true), fun t _ ht => getD_in (by simpa using ht) (getD_replicate_false _ _)⟩
  have H := wpAnyM_loads (P := P) (md := .any) (S := S) hs hb hn hsel hQ (l.drop k) (l.take k) 0 _ a a' _ (fun j hj => by
    have hj' : j < k := by rw [htl] at hj; exact hj
    simp [hj']) (by rw [htl]; omega) (fun j => by rw [htl]; simp [List.getElem?_drop]) inv0 (by rw [htl, hdl]; exact hh) hy hS (by rw [htl, Nat.zero_add]; exact h)
  refine wp_region_any hm (wpAny_of_M (S := S) (n := n) _ _ _ _ ?_)
  rw [htl, hdl, show k + (l.toArray.size - k) = l.toArray.size by omega] at H
  exact H
/-- A step of the text's order. -/
theorem wpListS_step {o : Oper} {rest : List Oper} {i : Nat} {a : Act} {w : World} (h : ∀ K : Act → World → Prop, (∀ a' w', (i < n → S w') → wpListS P ops Q S n (i + 1) rest a' w' → K a' w') → if Region.wanted o (yielded ops a.tmps) = true then o.wp P a w K Q else K (a.put o.dst undef) w) : wpListS P ops Q S n i (o :: rest) a w := by
  have := h (fun a' w' => (i < n → S w') ∧ wpListS P ops Q S n (i + 1) rest a' w') (fun a' w' h1 h2 => ⟨h1, h2⟩)
  unfold wpListS
  split
  · rename_i hw
    rw [if_pos hw] at this
    exact .inl this
  · rename_i hw
    rw [if_neg hw] at this
    exact this
/-- From the n-th operation on: as ever. -/
theorem wpListS_late : ∀ {l : List Oper} {i : Nat} {a : Act} {w : World}, n ≤ i → wpList P ops Q l a w → wpListS P ops Q S n i l a w
  | [], _, _, _, _, h => h
  | o :: l, i, a, w, hi, h => by
    unfold wpList at h
    unfold wpListS
    split
    · rename_i hw
      rw [if_pos hw] at h
      exact h.imp (fun h => Oper.wp_mono (fun a' w' h2 => ⟨fun h3 => by omega, wpListS_late (by omega) h2⟩) h) id
    · rename_i hw
      rw [if_neg hw] at h
      exact ⟨fun h3 => by omega, wpListS_late (by omega) h⟩
end
end Go.Bl

/- A region that draws its order, by what stays true: operations that only read are taken first; of the others each keeps a relation, in whatever order they come. Proved for every program; no condition. -/
namespace Go.Bl

section
variable {P : Program} {ops : Array Oper} {md : Region.Mode} {Q : Exit → Act → World → Prop} {S : World → Prop} {n : Nat}

/-- How many are still to come. -/
def toCome (L : Array Bool) : Nat := L.toList.count false
theorem count_set : ∀ (l : List Bool) (i : Nat), l[i]? = some false → (l.set i true).count false + 1 = l.count false
  | [], i, h => by simp at h
  | b :: l, 0, h => by
    obtain rfl : b = false := by simpa using h
    simp
  | b :: l, i + 1, h => by
    rw [List.getElem?_cons_succ] at h
    have := count_set l i h
    rw [List.set_cons_succ, List.count_cons, List.count_cons]
    omega
theorem toCome_set {L : Array Bool} {i : Nat} (h : L.getD i true = false) : toCome (L.setIfInBounds i true) + 1 = toCome L := by
  unfold toCome
  rw [Array.toList_setIfInBounds]
  refine count_set _ _ ?_
  rw [Array.getElem?_toList]
  rw [Array.getD_eq_getD_getElem?] at h
  cases h2 : L[i]? with
  | none => rw [h2] at h; simp at h
  | some b => rw [h2] at h; simpa using h
theorem toCome_none {L : Array Bool} {i : Nat} (h : L.getD i true = false) : 0 < toCome L := by have := toCome_set h; omega

/-- Whatever comes next keeps I: so I holds when all have come. -/
theorem wpAnyM_inv (I : Array Bool → Act → World → Prop) (hstep : ∀ L a w i, I L a w → i ∈ Region.ready md ops L → wpOp P ops Q i (fun a' w' => (i < n → S w') ∧ I (L.setIfInBounds i true) a' w') a w)
    (hend : ∀ L a w, I L a w → Region.ready md ops L = [] → Q .normal a w) : ∀ (fuel : Nat) (L : Array Bool) (a : Act) (w : World), toCome L ≤ fuel → I L a w → wpAnyM P md ops Q S n fuel L a w
  | 0, L, a, w, hf, h => by
    have hr : Region.ready md ops L = [] := List.eq_nil_iff_forall_not_mem.2 fun i hi => by have := toCome_none (mem_ready.1 hi).1; omega
    exact ⟨hr, hend L a w h hr⟩
  | fuel + 1, L, a, w, hf, h => ⟨fun hr => hend L a w h hr, fun i hi => wpOp_mono (fun a' w' h2 => ⟨h2.1, wpAnyM_inv I hstep hend fuel _ a' w' (by have := toCome_set (mem_ready.1 hi).1; omega) h2.2⟩) (hstep L a w i h hi)⟩

/-- Operations, by their numbers, that each leave a value in every world that meets S. -/
def YieldsI (P : Program) (ops : Array Oper) (S : World → Prop) : List Nat → Act → Act → Prop
  | [], a, a' => a' = a
  | i :: l, a, a' => ∃ v, YieldsIf P ops S ((ops[i]?).getD ⟨none, .move (.const undef), 0, "", #[], none⟩) v a ∧ YieldsI P ops S l (a.put ((ops[i]?).getD ⟨none, .move (.const undef), 0, "", #[], none⟩).dst v) a'
/-- Those numbers may come first, one behind the other. -/
def quietB (md : Region.Mode) (ops : Array Oper) (n : Nat) : List Nat → Array Bool → Bool
  | [], _ => true
  | i :: l, L => decide (i < n) && decide (i < ops.size) && (Region.ready md ops L).contains i && Region.free md ops L i && quietB md ops n l (L.setIfInBounds i true)
def markL : List Nat → Array Bool → Array Bool
  | [], L => L
  | i :: l, L => markL l (L.setIfInBounds i true)
theorem wpAnyM_quiet (hs : Region.sinkB md ops n = true) (hb : behindB md ops n = true) (hn : n < ops.size) (hsel : Region.noSelect ops = true) (hQ : ∀ c a a' w, Q (.panic c) a w → Q (.panic c) a' w) (f : Nat) :
    ∀ (hd : List Nat) (L : Array Bool) (a a' : Act) (w : World), HeadInv md ops n L → quietB md ops n hd L = true → YieldsI P ops S hd a a' → S w → wpAnyM P md ops Q S n f (markL hd L) a' w → wpAnyM P md ops Q S n (hd.length + f) L a w
  | [], L, a, a', w, _, _, hy, _, h => by
    obtain rfl : a' = a := hy
    rw [List.length_nil, Nat.zero_add]
    exact h
  | i :: hd, L, a, a', w, inv, hB, hy, hS, h => by
    simp only [quietB, Bool.and_eq_true, decide_eq_true_eq] at hB
    obtain ⟨⟨⟨⟨hin, hio⟩, hr⟩, hf⟩, hB'⟩ := hB
    have h0 : ops[i]? = some ops[i] := Array.getElem?_eq_getElem hio
    have hr' : i ∈ Region.ready md ops L := by simpa using hr
    obtain ⟨v, hv, hy'⟩ := hy
    rw [h0] at hv hy'
    have := wpAnyM_quiet hs hb hn hsel hQ f hd (L.setIfInBounds i true) (a.put ops[i].dst v) a' w (inv.set hr' hin) hB' hy' hS h
    rw [List.length_cons, show hd.length + 1 + f = (hd.length + f) + 1 by omega]
    exact wpAnyM_first hs hb hn h0 hin (Region.noSelect_spec hsel) (fun c a w => hQ c _ _ w) _ L a w inv (Region.free_spec h0 hf) hr' hv hS this

/-- The numbers that are left. -/
def leftL (ops : Array Oper) (L : Array Bool) : List Nat := (List.range ops.size).filter fun i => !L.getD i false
def freeB (md : Region.Mode) (ops : Array Oper) (n : Nat) (hd : List Nat) : Bool :=
  Region.noSelect ops && decide (n < ops.size) && Region.sinkB md ops n && behindB md ops n && quietB md ops n hd (Array.replicate ops.size false) && decide (toCome (markL hd (Array.replicate ops.size false)) + hd.length = ops.size) &&
    (List.range ops.size).all fun i => match ops[i]? with | none => false | some o => o.after.all fun e => decide (e.on < i) || !Region.binds md e
theorem markL_size : ∀ (l : List Nat) (L : Array Bool), (markL l L).size = L.size
  | [], _ => rfl
  | i :: l, L => by rw [markL, markL_size l]; simp
/-- A region of which some operations only read, ahead of the n-th one; of all the others each keeps J. -/
theorem region_free {id : Nat} {a a' : Act} {w : World} {l : List Oper} (n : Nat) (hd : List Nat) (S : World → Prop) (J : (Nat → Bool) → Act → World → Prop) (hm : P.follows .mixedOrders = true) (hB : freeB .any l.toArray n hd = true)
    (hQ : ∀ c a a' w, Q (.panic c) a w → Q (.panic c) a' w) (hS : S { w with drawn := w.drawn + 1 }) (hy : YieldsI P l.toArray S hd a a')
    (hJ : J (fun k => (markL hd (Array.replicate l.toArray.size false)).getD k false) a' { w with drawn := w.drawn + 1 })
    (hstep : ∀ i ∈ leftL l.toArray (markL hd (Array.replicate l.toArray.size false)), ∀ (β : Nat → Bool) (b : Act) (v : World), J β b v → β i = false → (∀ o, l[i]? = some o → ∀ e ∈ o.after, Region.binds .any e = true → β e.on = true) →
      wpOp P l.toArray Q i (fun b' v' => (i < n → S v') ∧ J (fun k => decide (k = i) || β k) b' v') b v)
    (hend : ∀ (β : Nat → Bool) (b : Act) (v : World), J β b v → (∀ i ∈ leftL l.toArray (markL hd (Array.replicate l.toArray.size false)), β i = true) → Q .normal b v) : (Code.region id l.toArray true).wp P Q a w := by
  simp only [freeB, Bool.and_eq_true, decide_eq_true_eq] at hB
  obtain ⟨⟨⟨⟨⟨⟨hsel, hn⟩, hs⟩, hb⟩, hq⟩, hc⟩, hac⟩ := hB
  have inv0 : HeadInv .any l.toArray n (Array.replicate l.toArray.size false) :=
    ⟨by simp, fun j oj _ hl => absurd hl (by rw [getD_replicate_false]; exact Bool.false_ne_true), fun t _ ht => getD_in (by simpa using ht) (getD_replicate_false _ _)⟩
  refine wp_region_any hm (wpAny_of_M (S := S) (n := n) _ _ _ _ ?_)
  have hsz : (markL hd (Array.replicate l.toArray.size false)).size = l.toArray.size := by rw [markL_size]; simp
  have H := wpAnyM_quiet (P := P) (Q := Q) (md := .any) (S := S) hs hb hn hsel hQ (toCome (markL hd (Array.replicate l.toArray.size false))) hd _ a a' _ inv0 hq hy hS ?_
  · rw [Nat.add_comm, hc] at H
    exact H
  generalize hL0 : markL hd (Array.replicate l.toArray.size false) = L0 at hJ hstep hend hsz ⊢
  refine wpAnyM_inv (fun L b v => L.size = l.toArray.size ∧ (∀ k, L0.getD k false = true → L.getD k false = true) ∧ J (fun k => L.getD k false) b v) ?_ ?_ _ L0 a' _ (Nat.le_refl _) ⟨hsz, fun _ h => h, hJ⟩
  · rintro L b v i ⟨h1, h2, h3⟩ hi
    obtain ⟨hun, o, ho, hall⟩ := mem_ready.1 hi
    have hil : i < l.toArray.size := (Array.getElem?_eq_some_iff.1 ho).1
    have hf : L.getD i false = false := by
      have hiL : i < L.size := by omega
      rw [Array.getD_eq_getD_getElem?, Array.getElem?_eq_getElem hiL] at hun ⊢
      exact hun
    have h4 := hstep i (by
      unfold leftL
      rw [List.mem_filter]
      refine ⟨List.mem_range.2 hil, ?_⟩
      cases e : L0.getD i false with
      | false => rfl
      | true => rw [h2 i e] at hf; cases hf) _ b v h3 hf (fun o' ho' e he hbi => by
        have : o' = o := by
          have h5 : l.toArray[i]? = some o' := by simpa using ho'
          rw [ho] at h5
          exact (Option.some.inj h5).symm
        subst this
        exact hall e he hbi)
    refine wpOp_mono (fun a2 w2 h5 => ⟨h5.1, by simp [h1], fun k hk => getD_set_true (h2 k hk), ?_⟩) h4
    have : (fun k => (L.setIfInBounds i true).getD k false) = fun k => decide (k = i) || L.getD k false := by
      funext k
      by_cases hk : k = i
      · subst hk
        rw [decide_eq_true rfl, Bool.true_or]
        have hiL : k < L.size := by omega
        simp [Array.getD_eq_getD_getElem?, hiL]
      · rw [getD_set_ne false (Ne.symm hk), decide_eq_false hk, Bool.false_or]
    rw [this]
    exact h5.2
  · rintro L b v ⟨h1, h2, h3⟩ hr
    refine hend _ b v h3 ?_
    -- all have come: else the first one that has not may come
    have hall : ∀ i, i < l.toArray.size → L.getD i false = true := by
      intro i
      induction i using Nat.strongRecOn with
      | _ i ih =>
        intro hi
        cases e : L.getD i false with
        | true => rfl
        | false =>
          exfalso
          have hiL : i < L.size := by omega
          have hun : L.getD i true = false := by
            rw [Array.getD_eq_getD_getElem?, Array.getElem?_eq_getElem hiL] at e ⊢
            exact e
          have hmem : i ∈ Region.ready .any l.toArray L := mem_ready.2 ⟨hun, l.toArray[i], Array.getElem?_eq_getElem hi, fun e he hbe => by
            have h6 := List.all_eq_true.1 hac i (List.mem_range.2 hi)
            rw [Array.getElem?_eq_getElem hi] at h6
            have h7 : (l.toArray[i]).after.all (fun e => decide (e.on < i) || !Region.binds .any e) = true := h6
            rw [Array.all_eq_true_iff_forall_mem] at h7
            have h9 := h7 e he
            rw [hbe, Bool.not_true, Bool.or_false] at h9
            have h8 := of_decide_eq_true h9
            exact ih e.on h8 (by omega)⟩
          rw [hr] at hmem
          cases hmem
    intro i hi
    unfold leftL at hi
    exact hall i (List.mem_range.1 (List.mem_filter.1 hi).1)
/-- Values laid into temporaries. -/
def putsL : List Nat → (Nat → Value) → Act → Act
  | [], _, a => a
  | s :: sl, X, a => putsL sl X (a.put (some s) (X s))
theorem put_twice (a : Act) (s : Nat) (u v : Value) : (a.put (some s) u).put (some s) v = a.put (some s) v := by
  unfold Act.put
  simp
theorem put_swap (a : Act) {s t : Nat} (h : s ≠ t) (u v : Value) : (a.put (some s) u).put (some t) v = (a.put (some t) v).put (some s) u := by
  unfold Act.put
  simp only [Act.mk.injEq, and_true]
  exact (Array.setIfInBounds_comm _ _ h)
theorem putsL_out : ∀ (sl : List Nat) (X : Nat → Value) (a : Act) (s : Nat) (x : Value), s ∉ sl → (putsL sl X a).put (some s) x = putsL sl X (a.put (some s) x)
  | [], _, _, _, _, _ => rfl
  | t :: sl, X, a, s, x, h => by
    rw [List.mem_cons, not_or] at h
    rw [putsL, putsL, putsL_out sl X _ s x h.2, put_swap _ (Ne.symm h.1)]
theorem putsL_congr : ∀ (sl : List Nat) (X Y : Nat → Value) (a : Act), (∀ s ∈ sl, X s = Y s) → putsL sl X a = putsL sl Y a
  | [], _, _, _, _ => rfl
  | t :: sl, X, Y, a, h => by
    rw [putsL, putsL, h t List.mem_cons_self]
    exact putsL_congr sl X Y _ fun s hs => h s (List.mem_cons_of_mem _ hs)
theorem putsL_put : ∀ (sl : List Nat) (X : Nat → Value) (a : Act) (d : Nat) (x : Value), sl.Nodup → d ∈ sl → (putsL sl X a).put (some d) x = putsL sl (fun k => if k = d then x else X k) a
  | [], _, _, _, _, _, h => by cases h
  | t :: sl, X, a, d, x, hn, h => by
    rw [List.nodup_cons] at hn
    by_cases e : d = t
    · subst e
      rw [putsL, putsL, putsL_out sl X _ d x hn.1, put_twice, if_pos rfl]
      exact putsL_congr sl _ _ _ fun s hs => by rw [if_neg fun (e : s = d) => hn.1 (e ▸ hs)]
    · rw [putsL, putsL, if_neg (Ne.symm e)]
      exact putsL_put sl X _ d x hn.2 ((List.mem_cons.1 h).resolve_left e)
theorem putsL_self : ∀ (sl : List Nat) (a : Act), putsL sl (fun k => a.tmps.getD k undef) a = a
  | [], _ => rfl
  | t :: sl, a => by
    rw [putsL]
    have : a.put (some t) (a.tmps.getD t undef) = a := by
      unfold Act.put
      show ({ a with tmps := a.tmps.setIfInBounds t (a.tmps.getD t undef) } : Act) = a
      by_cases h : t < a.tmps.size
      · have : a.tmps.setIfInBounds t (a.tmps.getD t undef) = a.tmps := by
          apply Array.ext
          · simp
          · intro i h1 h2
            rw [Array.getElem_setIfInBounds]
            split
            · rename_i e
              subst e
              simp
            · rfl
        rw [this]
      · have : a.tmps.setIfInBounds t (a.tmps.getD t undef) = a.tmps := by
          unfold Array.setIfInBounds
          rw [dif_neg h]
        rw [this]
    rw [this]
    exact putsL_self sl a
/-- What an operation leaves. -/
def newX (d : Option Nat) (x : Value) (X : Nat → Value) : Nat → Value := match d with | none => X | some t => fun k => if k = t then x else X k
theorem wpOp_of {i : Nat} {o : Oper} {K : Act → World → Prop} {a : Act} {w : World} (hi : ops[i]? = some o) (h : if Region.wanted o (yielded ops a.tmps) = true then o.wp P a w K Q else K (a.put o.dst undef) w) : wpOp P ops Q i K a w := by
  unfold wpOp
  simp only [hi]
  split
  · rename_i hw
    rw [if_pos hw] at h
    exact .inl h
  · rename_i hw
    rw [if_neg hw] at h
    exact h
theorem putsL_size : ∀ (sl : List Nat) (X : Nat → Value) (a : Act), (putsL sl X a).tmps.size = a.tmps.size
  | [], _, _ => rfl
  | t :: sl, X, a => by
    rw [putsL, putsL_size sl X]
    unfold Act.put
    simp
theorem putsL_out_eval : ∀ (sl : List Nat) (X : Nat → Value) (a : Act) (t : Nat), t ∉ sl → (putsL sl X a).eval (.tmp t) = a.eval (.tmp t)
  | [], _, _, _, _ => rfl
  | s :: sl, X, a, t, h => by
    rw [List.mem_cons, not_or] at h
    rw [putsL, putsL_out_eval sl X _ t h.2]
    unfold Act.put Act.eval
    show (a.tmps.setIfInBounds s (X s)).getD t undef = a.tmps.getD t undef
    rw [Array.getD_eq_getD_getElem?, Array.getD_eq_getD_getElem?, Array.getElem?_setIfInBounds, if_neg (Ne.symm h.1)]
theorem putsL_in_eval : ∀ (sl : List Nat) (X : Nat → Value) (a : Act) (t : Nat), sl.Nodup → t ∈ sl → t < a.tmps.size → (putsL sl X a).eval (.tmp t) = X t
  | [], _, _, _, _, h, _ => by cases h
  | s :: sl, X, a, t, hn, h, hs => by
    rw [List.nodup_cons] at hn
    rw [putsL]
    by_cases e : t = s
    · subst e
      rw [putsL_out_eval sl X _ t hn.1]
      unfold Act.put Act.eval
      show (a.tmps.setIfInBounds t (X t)).getD t undef = X t
      rw [Array.getD_eq_getD_getElem?, Array.getElem?_setIfInBounds, if_pos rfl, if_pos hs]
      rfl
    · exact putsL_in_eval sl X _ t hn.2 ((List.mem_cons.1 h).resolve_left e) (by unfold Act.put; simpa using hs)
def slB (l : List Oper) (sl lf : List Nat) : Bool := lf.all fun i => match (l[i]?).bind (·.dst) with | none => true | some d => sl.contains d
/-- A region of which some operations only read; of all the others (lf) each leaves a value, and keeps J. -/
theorem region_kept {id : Nat} {a a' : Act} {w : World} {l : List Oper} (n : Nat) (hd lf sl : List Nat) (S : World → Prop) (J : (Nat → Bool) → (Nat → Value) → World → Prop) (hm : P.follows .mixedOrders = true) (hB : freeB .any l.toArray n hd = true)
    (hlf : leftL l.toArray (markL hd (Array.replicate l.toArray.size false)) = lf) (hn : sl.Nodup) (hsl : slB l sl lf = true)
    (hQ : ∀ c a a' w, Q (.panic c) a w → Q (.panic c) a' w) (hS : S { w with drawn := w.drawn + 1 }) (hy : YieldsI P l.toArray S hd a a')
    (hJ : ∀ (β : Nat → Bool) (X : Nat → Value), (∀ i ∈ lf, β i = false) → J β X { w with drawn := w.drawn + 1 })
    (hstep : ∀ i ∈ lf, ∀ (β : Nat → Bool) (X : Nat → Value) (v : World), J β X v → β i = false → (∀ o, l[i]? = some o → ∀ e ∈ o.after, Region.binds .any e = true → β e.on = true) →
      ∀ b : Act, (∀ t, t ∉ sl → b.eval (.tmp t) = a'.eval (.tmp t)) → (∀ t, t ∈ sl → t < a'.tmps.size → b.eval (.tmp t) = X t) →
      ∀ K : Act → World → Prop, (∀ x v', (i < n → S v') → J (fun k => decide (k = i) || β k) (newX ((l[i]?).bind (·.dst)) x X) v' → K (b.put ((l[i]?).bind (·.dst)) x) v') → wpOp P l.toArray Q i K b v)
    (hend : ∀ (β : Nat → Bool) (X : Nat → Value) (v : World), J β X v → (∀ i ∈ lf, β i = true) → Q .normal (putsL sl X a') v) : (Code.region id l.toArray true).wp P Q a w := by
  refine region_free n hd S (fun β b v => ∃ X, b = putsL sl X a' ∧ J β X v) hm hB hQ hS hy ⟨_, (putsL_self sl a').symm, hJ _ _ fun i hi => ?_⟩ ?_ ?_
  · rw [← hlf] at hi
    have := (List.mem_filter.1 hi).2
    simpa using this
  · rw [hlf]
    rintro i hi β b v ⟨X, rfl, hX⟩ hb hdep
    refine hstep i hi β X v hX hb hdep _ (fun t ht => putsL_out_eval sl X a' t ht) (fun t ht hs => putsL_in_eval sl X a' t hn ht hs) _ fun x v' h1 h2 => ⟨h1, ?_⟩
    have h3 := List.all_eq_true.1 hsl i hi
    cases hd2 : (l[i]?).bind (·.dst) with
    | none =>
      rw [hd2] at h2
      exact ⟨X, rfl, h2⟩
    | some d =>
      rw [hd2] at h2
      simp only [hd2] at h3
      exact ⟨_, putsL_put sl X a' d x hn (by simpa using h3), h2⟩
  · rw [hlf]
    rintro β b v ⟨X, rfl, hX⟩ hall
    exact hend β X v hX hall
/-- What an operation waits for has come. -/
theorem edge_came {β : Nat → Bool} {l : List Oper} {i : Nat} {o : Oper} (ho : l[i]? = some o) (h : ∀ o, l[i]? = some o → ∀ e ∈ o.after, Region.binds .any e = true → β e.on = true) (k : Nat) (hk : o.after.any (fun e => decide (e.on = k) && Region.binds .any e) = true) : β k = true := by
  obtain ⟨i, hi, he2⟩ := Array.any_eq_true.1 hk
  rw [Bool.and_eq_true, decide_eq_true_eq] at he2
  have := h o ho o.after[i] (Array.getElem_mem hi) he2.2
  rw [he2.1] at this
  exact this
end
end Go.Bl

namespace Go.Proofs.YtoegdpcfhmjnaaaGreatDoor
open Go.RowKit Go.Bl

/-- A row: is it there (bc, as r)? is what it gets laid (bf, as xf)? has it got it (ba, as xa)? -/
structure RowD where
  bc : Bool
  bf : Bool
  ba : Bool
  xf : Value
  xa : Value
  r : Value
  L : List Int
  n : Int
def RowD.val (R : RowD) : Value := if R.ba = true then R.xa else R.r
def RowD.row (R : RowD) : List Int := if R.ba = true then R.L ++ [R.n] else R.L
def RowD.blk (R : RowD) (k : Nat) : Prop := (R.bc = true ∧ R.val.ownBlock = some k) ∨ (R.bf = true ∧ R.ba = false ∧ R.xf = .slice (some ⟨k, 0, none⟩) 1 1)
structure RowAt (u : World) (base : Nat) (R : RowD) : Prop where
  own : R.bc = true → Own u base 3 1 intc R.val R.row
  flt : R.bf = true → R.ba = false → ∃ s, R.xf = .slice (some ⟨s, 0, none⟩) 1 1 ∧ u.heap[s]? = some (.cells #[.int .i64 R.n] 3 (0, 0)) ∧ base ≤ s
  apart : R.bc = true → R.bf = true → R.ba = false → ∀ s, R.xf = .slice (some ⟨s, 0, none⟩) 1 1 → R.r.ownBlock ≠ some s
section
variable {u u' : World} {base : Nat} {R : RowD}
theorem RowAt.lt (h : RowAt u base R) (k : Nat) (hk : R.blk k) : base ≤ k ∧ k < u.heap.size := by
  rcases hk with ⟨h1, h2⟩ | ⟨h1, h2, h3⟩
  · exact Own.lt (h.own h1) k h2
  · obtain ⟨s, e, hs, hb⟩ := h.flt h1 h2
    rw [h3] at e
    cases e
    exact ⟨hb, (Array.getElem?_eq_some_iff.1 hs).1⟩
theorem RowAt.start {xf xa r : Value} {L : List Int} {n : Int} (h : Own u base 3 1 intc r L) : RowAt u base ⟨true, false, false, xf, xa, r, L, n⟩ := ⟨fun _ => h, (fun (h2 : false = true) => by cases h2), (fun _ (h2 : false = true) => by cases h2)⟩
theorem RowAt.keep {G : Nat → Prop} (h : RowAt u base R) (hk : Keeps G u u') (hd : ∀ k, R.blk k → ¬ G k) : RowAt u' base R :=
  ⟨fun h1 => (h.own h1).keep hk fun b hb => hd b (.inl ⟨h1, hb⟩), fun h1 h2 => by
    obtain ⟨s, e, hs, hb⟩ := h.flt h1 h2
    exact ⟨s, e, hk.grownTo hs (hd s (.inr ⟨h1, h2, e⟩)), hb⟩, h.apart⟩
theorem RowAt.fresh (h : RowAt u base R) (hB : Below u.heap.size u u') : RowAt u' base R := h.keep (Keeps.of_fresh hB fun _ => False) (fun _ _ => id)
theorem RowAt.built (h : RowAt u base R) (ha : R.ba = false) (hbase : base ≤ u.heap.size) : RowAt (u.alloc (.cells #[.int .i64 R.n] 3)) base { R with bf := true, xf := .slice (some ⟨u.heap.size, 0, none⟩) 1 1 } := by
  refine ⟨fun h1 => (h.own h1).fresh ((Below.refl _ u).alloc (Nat.le_refl _) _), fun _ _ => ⟨_, rfl, heap_alloc_new u _, hbase⟩, fun h1 _ _ s hs e => ?_⟩
  have h1' : R.bc = true := h1
  have e1 : R.r.ownBlock = some s := e
  have h2 := Own.lt (h.own h1') s (by unfold RowD.val; rw [ha]; exact e1)
  cases hs
  omega
theorem RowAt.got {v : Value} (h : Own u' base 3 1 intc v (R.L ++ [R.n])) : RowAt u' base { R with ba := true, xa := v } :=
  ⟨fun _ => h, (fun _ (h2 : true = false) => by cases h2), (fun _ _ (h2 : true = false) => by cases h2)⟩
theorem RowAt.come {v : Value} {b2 : Nat} (h : RowAt u base R) (ha : R.ba = false) (ho : Own u' b2 3 1 intc v R.L) (hb2 : u.heap.size ≤ b2) (hbase : base ≤ u.heap.size) (hB : Below u.heap.size u u') : RowAt u' base { R with bc := true, r := v } := by
  refine ⟨fun _ => ?_, fun h1 h2 => ?_, fun _ h1 h2 s hs e => ?_⟩
  · unfold RowD.val RowD.row
    simp only [ha]
    exact ho.lower (Nat.le_trans hbase hb2)
  · obtain ⟨s, e, hs, hb⟩ := h.flt h1 h2
    exact ⟨s, e, (hB.block _ (Array.getElem?_eq_some_iff.1 hs).1).trans hs, hb⟩
  · obtain ⟨s', e', hs', _⟩ := h.flt h1 h2
    have hs2 : R.xf = .slice (some ⟨s, 0, none⟩) 1 1 := hs
    rw [hs2] at e'
    cases e'
    have h3 := (Array.getElem?_eq_some_iff.1 hs').1
    have h4 := (Own.lt ho s e).1
    omega
theorem RowAt.own0 (h : RowAt u base R) (hc : R.bc = true) (ha : R.ba = false) : Own u base 3 1 intc R.r R.L := by
  have := h.own hc
  unfold RowD.val RowD.row at this
  simpa [ha] using this
theorem RowAt.own1 (h : RowAt u base R) (hc : R.bc = true) (ha : R.ba = true) : Own u base 3 1 intc R.xa (R.L ++ [R.n]) := by
  have := h.own hc
  unfold RowD.val RowD.row at this
  simpa [ha] using this
theorem RowAt.sl (h : RowAt u base R) (h1 : R.bf = true) (h2 : R.ba = false) : Sl u (fun k => R.blk k) 1 intc R.xf [R.n] := by
  obtain ⟨s, e, hs, hb⟩ := h.flt h1 h2
  rw [e]
  exact (Sl.single (enc := intc) (x := R.n) hs rfl).mono fun k _ hk => .inr ⟨h1, h2, by have e2 : k = s := hk; rw [e2]; exact e⟩
end
def Disj (R R' : RowD) : Prop := ∀ k, R.blk k → ¬ R'.blk k
theorem Disj.start {xf xa r L n xf' xa' r' L' n'} (h : ∀ k, r.ownBlock = some k → r'.ownBlock ≠ some k) : Disj ⟨true, false, false, xf, xa, r, L, n⟩ ⟨true, false, false, xf', xa', r', L', n'⟩ := fun k h1 h2 => by
  rcases h1 with ⟨_, h1⟩ | ⟨h1, _⟩
  · rcases h2 with ⟨_, h2⟩ | ⟨h2, _⟩
    · exact h k h1 h2
    · cases h2
  · cases h1
theorem Disj.symm {R R' : RowD} (h : Disj R R') : Disj R' R := fun k h1 h2 => h k h2 h1
theorem Disj.step {u : World} {base : Nat} {R R2 R' : RowD} (h : Disj R R') (hn : ∀ k, R2.blk k → R.blk k ∨ u.heap.size ≤ k) (h' : RowAt u base R') : Disj R2 R' := fun k h1 h2 => by
  rcases hn k h1 with h3 | h3
  · exact h k h3 h2
  · have := (h'.lt k h2).2
    omega
/-- Three rows that share nothing. -/
structure Rows3 (u : World) (base : Nat) (R1 R2 R3 : RowD) : Prop where
  r1 : RowAt u base R1
  r2 : RowAt u base R2
  r3 : RowAt u base R3
  d12 : Disj R1 R2
  d13 : Disj R1 R3
  d23 : Disj R2 R3
section
variable {u u' : World} {base : Nat} {R R1 R2 R3 : RowD}
theorem Rows3.rot (h : Rows3 u base R1 R2 R3) : Rows3 u base R2 R3 R1 := ⟨h.r2, h.r3, h.r1, h.d23, h.d12.symm, h.d13.symm⟩
theorem Rows3.step1 {G : Nat → Prop} (h : Rows3 u base R1 R2 R3) (hR : RowAt u' base R) (hk : Keeps G u u') (hG : ∀ k, k < u.heap.size → G k → R1.blk k) (hn : ∀ k, R.blk k → R1.blk k ∨ u.heap.size ≤ k) : Rows3 u' base R R2 R3 :=
  ⟨hR, h.r2.keep hk (fun k h1 h2 => h.d12 k (hG k (h.r2.lt k h1).2 h2) h1), h.r3.keep hk (fun k h1 h2 => h.d13 k (hG k (h.r3.lt k h1).2 h2) h1), h.d12.step hn h.r2, h.d13.step hn h.r3, h.d23⟩
theorem Rows3.fresh (h : Rows3 u base R1 R2 R3) (hB : Below u.heap.size u u') : Rows3 u' base R1 R2 R3 := ⟨h.r1.fresh hB, h.r2.fresh hB, h.r3.fresh hB, h.d12, h.d13, h.d23⟩
theorem Rows3.keep {G : Nat → Prop} (h : Rows3 u base R1 R2 R3) (hk : Keeps G u u') (hG : ∀ k, G k → k < base) : Rows3 u' base R1 R2 R3 :=
  ⟨h.r1.keep hk (fun k h1 h2 => by have := (h.r1.lt k h1).1; have := hG k h2; omega), h.r2.keep hk (fun k h1 h2 => by have := (h.r2.lt k h1).1; have := hG k h2; omega), h.r3.keep hk (fun k h1 h2 => by have := (h.r3.lt k h1).1; have := hG k h2; omega), h.d12, h.d13, h.d23⟩
/-- The first row's number is laid. -/
theorem Rows3.build1 (h : Rows3 u base R1 R2 R3) (ha : R1.ba = false) (hbase : base ≤ u.heap.size) : Rows3 (u.alloc (.cells #[.int .i64 R1.n] 3)) base { R1 with bf := true, xf := .slice (some ⟨u.heap.size, 0, none⟩) 1 1 } R2 R3 := by
  refine h.step1 (G := fun _ => False) (h.r1.built ha hbase) ((Keeps.refl _ u).alloc _) (fun _ _ h => h.elim) fun k hk => ?_
  rcases hk with ⟨h1, h2⟩ | ⟨h1, h2, h3⟩
  · exact .inl (.inl ⟨h1, h2⟩)
  · cases h3
    exact .inr (Nat.le_refl _)
/-- The first row has its number. -/
theorem Rows3.got1 {v : Value} (h : Rows3 u base R1 R2 R3) (ha : R1.ba = false) (hc : R1.bc = true) (ho : Own u' base 3 1 intc v (R1.L ++ [R1.n])) (hg : u.grownBy u' R1.r.ownBlock) (hat : AtOf u R1.r v) : Rows3 u' base { R1 with ba := true, xa := v } R2 R3 := by
  have hb : ∀ k, R1.r.ownBlock = some k → R1.blk k := fun k e => .inl ⟨hc, by unfold RowD.val; rw [ha]; exact e⟩
  refine h.step1 (RowAt.got ho) (Keeps.of_grown hg) (fun k _ e => hb k e) fun k hk => ?_
  rcases hk with ⟨_, h2⟩ | ⟨_, h2, _⟩
  · have h2 : v.ownBlock = some k := h2
    rcases hat with e | e
    · exact .inl (hb k (e ▸ h2))
    · rw [e] at h2
      cases h2
      exact .inr (Nat.le_refl _)
  · cases h2
/-- The first row comes. -/
theorem Rows3.come1 {v : Value} {b2 : Nat} (h : Rows3 u base R1 R2 R3) (ha : R1.ba = false) (ho : Own u' b2 3 1 intc v R1.L) (hb2 : u.heap.size ≤ b2) (hbase : base ≤ u.heap.size) (hB : Below u.heap.size u u') : Rows3 u' base { R1 with bc := true, r := v } R2 R3 := by
  refine h.step1 (G := fun _ => False) (h.r1.come ha ho hb2 hbase hB) (Keeps.of_fresh hB _) (fun _ _ h => h.elim) fun k hk => ?_
  rcases hk with ⟨_, h2⟩ | ⟨h1, h2, h3⟩
  · have h2 : (if R1.ba = true then R1.xa else v).ownBlock = some k := h2
    rw [ha] at h2
    exact .inr (Nat.le_trans hb2 (Own.lt ho k h2).1)
  · exact .inl (.inr ⟨h1, h2, h3⟩)
end
/-- A number laid as a row of one. -/
theorem wpOp_onex {l : List Oper} {i : Nat} {o : Oper} {b : Act} {u : World} {K : Act → World → Prop} {Q : Exit → Act → World → Prop} (x : Operand) (n : Int) (ho : l[i]? = some o) (hg : o.guard = none) (hop : o.op = .buildSlice 22 1 #[(0, x)]) (hb : b.eval x = .int .i64 n)
    (h : K (b.put ((l[i]?).bind (·.dst)) (.slice (some ⟨u.heap.size, 0, none⟩) 1 1)) (u.alloc (.cells #[.int .i64 n] 3))) : wpOp Tryz.prog l.toArray Q i K b u := by
  rw [ho] at h
  refine wpOp_of (o := o) (by simpa using ho) ?_
  rw [if_pos (by simp [Region.wanted, hg])]
  obtain ⟨i0, hi, h1, h2, h3⟩ := info_parts infoInt
  refine wp_buildSlice 22 3 1 #[(0, x)] hop #[.int .i64 n] i0 (.int .i64 0) Tryz.underlying22 hi h1 (by rw [h2]; decide) (by rw [h2]; decide) ?_ h
  rw [h2]
  simp only [List.map_toArray, List.map_cons, List.map_nil, hb]
  kernel_rfl
theorem wpOp_one {l : List Oper} {i : Nat} {o : Oper} {b : Act} {u : World} {K : Act → World → Prop} {Q : Exit → Act → World → Prop} (t : Nat) (n : Int) (ho : l[i]? = some o) (hg : o.guard = none) (hop : o.op = .buildSlice 22 1 #[(0, .tmp t)]) (hb : b.eval (.tmp t) = .int .i64 n)
    (h : K (b.put ((l[i]?).bind (·.dst)) (.slice (some ⟨u.heap.size, 0, none⟩) 1 1)) (u.alloc (.cells #[.int .i64 n] 3))) : wpOp Tryz.prog l.toArray Q i K b u := wpOp_onex (.tmp t) n ho hg hop hb h
end Go.Proofs.YtoegdpcfhmjnaaaGreatDoor
