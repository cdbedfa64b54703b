/- A region that draws its order: loads that may come first, as long as what stands ahead of the last of them leaves their cells alone; then all in the text's order. Proved for every program; no condition. -/
import Derived.Test.YthdcnknjjbdefaaGreatDoorBlR
import Derived.OrdersHeld
namespace Go.Bl

section
variable {P : Program} {ops : Array Oper} {md : Region.Mode} {Q : Exit → Act → World → Prop} {S : World → Prop} {n : Nat}

/-- Whatever order is picked; behind each of the first n operations S holds. -/
def wpAnyM (P : Program) (md : Region.Mode) (ops : Array Oper) (Q : Exit → Act → World → Prop) (S : World → Prop) (n : Nat) : Nat → Array Bool → Act → World → Prop
  | 0, listed, a, w => Region.ready md ops listed = [] ∧ Q .normal a w
  | fuel + 1, listed, a, w =>
    (Region.ready md ops listed = [] → Q .normal a w) ∧
    ∀ i ∈ Region.ready md ops listed, wpOp P ops Q i (fun a' w' => (i < n → S w') ∧ wpAnyM P md ops Q S n fuel (listed.setIfInBounds i true) a' w') a w
theorem wpAny_of_M : ∀ (fuel : Nat) (listed : Array Bool) (a : Act) (w : World), wpAnyM P md ops Q S n fuel listed a w → wpAny P md ops Q fuel listed a w
  | 0, _, _, _, h => h
  | fuel + 1, _, _, _, h => ⟨h.1, fun i hi => wpOp_mono (fun a' w' h' => wpAny_of_M fuel _ a' w' h'.2) (h.2 i hi)⟩

theorem wpAnyM_first {i : Nat} {oi : Oper} {v : Value} (hs : Region.sinkB md ops n = true) (hb : behindB md ops n = true) (hn : n < ops.size) (hi : ops[i]? = some oi) (hin : i < n) (hsel : ∀ (j : Nat) (o : Oper) cs b, ops[j]? = some o → o.op ≠ .select cs b)
    (hQ : ∀ c a w, Q (.panic c) (a.put oi.dst v) w → Q (.panic c) a w) :
    ∀ (fuel : Nat) (listed : Array Bool) (a : Act) (w : World), HeadInv md ops n listed →
      (∀ j oj, ops[j]? = some oj → j ≠ i → listed.getD j true = false → (∀ e ∈ oj.after, Region.binds md e = true → e.on ≠ i) → oi.apart ops oj = true) →
      i ∈ Region.ready md ops listed → YieldsIf P ops S oi v a → S w →
      wpAnyM P md ops Q S n fuel (listed.setIfInBounds i true) (a.put oi.dst v) w → wpAnyM P md ops Q S n (fuel + 1) listed a w := by
  intro fuel
  induction fuel with
  | zero =>
    intro listed a w _ _ hr hy hS H
    refine ⟨fun h => (by rw [h] at hr; cases hr), fun j hj => ?_⟩
    by_cases hji : j = i
    · subst hji; exact hy.wpOp hi hS ⟨fun _ => hS, H⟩
    · have := ready_mono hj hji
      rw [H.1] at this
      cases this
  | succ fuel ih =>
    intro listed a w inv hfree hr hy hS H
    refine ⟨fun h => (by rw [h] at hr; cases hr), fun j hj => ?_⟩
    by_cases hji : j = i
    · subst hji; exact hy.wpOp hi hS ⟨fun _ => hS, H⟩
    · have h1 := H.2 j (ready_mono hj hji)
      obtain ⟨hjun, oj, hoj, hall⟩ := mem_ready.1 hj
      have hun := (mem_ready.1 hr).1
      have hjn : j < n := Nat.lt_of_not_le fun h => held_back hs hb inv hn n i (by omega) hin hun j h hj
      have hnot : ∀ e ∈ oj.after, Region.binds md e = true → e.on ≠ i := fun e he hbi heq => not_true_of hun (heq ▸ hall e he hbi)
      have h2 := wpOp_putIf hoj (hfree j oj hoj hji hjun hnot) (fun cs b => hsel i oi cs b hi) (fun cs b => hsel j oj cs b hoj) hQ hy h1
      have hfree' : ∀ k ok, ops[k]? = some ok → k ≠ i → (listed.setIfInBounds j true).getD k true = false →
          (∀ e ∈ ok.after, Region.binds md e = true → e.on ≠ i) → oi.apart ops ok = true := fun k ok hk hki hunk hno => by
        refine hfree k ok hk hki ?_ hno
        by_cases hjk : j = k
        · subst hjk; exact hjun
        · rw [getD_set_ne true hjk] at hunk; exact hunk
      refine wpOp_mono (fun a' w' h3 => ⟨h3.2.1, ih (listed.setIfInBounds j true) a' w' (inv.set hj hjn) hfree' (ready_mono hr (Ne.symm hji)) h3.1 (h3.2.1 hjn) ?_⟩) h2
      rw [Array.setIfInBounds_comm _ _ hji]
      exact h3.2.2

/-- In the text's order; behind each of the first n operations S holds. -/
def wpListS (P : Program) (ops : Array Oper) (Q : Exit → Act → World → Prop) (S : World → Prop) (n : Nat) : Nat → List Oper → Act → World → Prop
  | _, [], a, w => Q .normal a w
  | i, o :: rest, a, w =>
    if Region.wanted o (yielded ops a.tmps) = true then o.wp P a w (fun a' w' => (i < n → S w') ∧ wpListS P ops Q S n (i + 1) rest a' w') Q ∨ (o.asks P a w ∧ LetsOut Q)
    else (i < n → S w) ∧ wpListS P ops Q S n (i + 1) rest (a.put o.dst undef) w
/-- The text's order is the only one. -/
def forcedB (md : Region.Mode) (ops : Array Oper) : Nat → Nat → Array Bool → Bool
  | 0, _, listed => (Region.ready md ops listed).isEmpty
  | f + 1, k, listed => decide (Region.ready md ops listed = [k]) && forcedB md ops f (k + 1) (listed.setIfInBounds k true)
theorem wpAnyM_forced : ∀ (l : List Oper) (k : Nat) (listed : Array Bool) (a : Act) (w : World), (∀ j, l[j]? = ops[k + j]?) → forcedB md ops l.length k listed = true → wpListS P ops Q S n k l a w → wpAnyM P md ops Q S n l.length listed a w
  | [], _, listed, _, _, _, hB, h => ⟨by simpa [forcedB] using hB, h⟩
  | o :: l, k, listed, a, w, hl, hB, h => by
    have h0 : ops[k]? = some o := by simpa using (hl 0).symm
    simp only [List.length_cons, forcedB, Bool.and_eq_true, decide_eq_true_eq] at hB
    obtain ⟨hr, hB'⟩ := hB
    have hrec : ∀ a2 w2, wpListS P ops Q S n (k + 1) l a2 w2 → wpAnyM P md ops Q S n l.length (listed.setIfInBounds k true) a2 w2 := fun a2 w2 h2 =>
      wpAnyM_forced l (k + 1) _ a2 w2 (fun j => by have := hl (j + 1); simpa [Nat.add_assoc, Nat.add_comm 1 j] using this) hB' h2
    refine ⟨fun h0 => (by rw [hr] at h0; cases h0), fun i hi => ?_⟩
    rw [hr] at hi
    obtain rfl : i = k := by simpa using hi
    unfold wpListS at h
    unfold wpOp
    simp only [h0]
    split
    · rename_i hw
      rw [if_pos hw] at h
      exact h.imp (fun h => Oper.wp_mono (fun a2 w2 h3 => ⟨h3.1, hrec a2 w2 h3.2⟩) h) id
    · rename_i hw
      rw [if_neg hw] at h
      exact ⟨h.1, hrec _ _ h.2⟩
/-- Operations that each leave a value in every world that meets S. -/
def YieldsL (P : Program) (ops : Array Oper) (S : World → Prop) : List Oper → Act → Act → Prop
  | [], a, a' => a' = a
  | o :: l, a, a' => ∃ v, YieldsIf P ops S o v a ∧ YieldsL P ops S l (a.put o.dst v) a'
def loadsB (md : Region.Mode) (ops : Array Oper) (g : Nat) : Nat → Nat → Array Bool → Bool
  | 0, k, listed => forcedB md ops g k listed
  | f + 1, k, listed => (Region.ready md ops listed).contains k && Region.free md ops listed k && loadsB md ops g f (k + 1) (listed.setIfInBounds k true)
theorem wpAnyM_loads (hs : Region.sinkB md ops n = true) (hb : behindB md ops n = true) (hn : n < ops.size) (hsel : Region.noSelect ops = true) (hQ : ∀ c a a' w, Q (.panic c) a w → Q (.panic c) a' w) (l : List Oper) :
    ∀ (hd : List Oper) (k : Nat) (listed : Array Bool) (a a' : Act) (w : World), (∀ j, j < hd.length → hd[j]? = ops[k + j]?) → k + hd.length ≤ n → (∀ j, l[j]? = ops[k + hd.length + j]?) → HeadInv md ops n listed → loadsB md ops l.length hd.length k listed = true →
      YieldsL P ops S hd a a' → S w → wpListS P ops Q S n (k + hd.length) l a' w → wpAnyM P md ops Q S n (hd.length + l.length) listed a w
  | [], k, listed, a, a', w, _, _, hl, _, hB, hy, _, h => by
    obtain rfl : a' = a := hy
    rw [List.length_nil, Nat.zero_add]
    exact wpAnyM_forced l k listed a' w (fun j => by simpa using hl j) hB (by simpa using h)
  | o :: hd, k, listed, a, a', w, hh, hk, hl, inv, hB, hy, hS, h => by
    have h0 : ops[k]? = some o := by simpa using (hh 0 (by simp)).symm
    simp only [List.length_cons, loadsB, Bool.and_eq_true] at hB
    obtain ⟨⟨hr, hf⟩, hB'⟩ := hB
    have hr' : k ∈ Region.ready md ops listed := by simpa using hr
    obtain ⟨v, hv, hy'⟩ := hy
    simp only [List.length_cons] at hk hl h ⊢
    have := wpAnyM_loads hs hb hn hsel hQ l hd (k + 1) (listed.setIfInBounds k true) (a.put o.dst v) a' w (fun j hj => by
      have := hh (j + 1) (by simp; omega)
      rw [List.getElem?_cons_succ] at this
      rw [this]; congr 1; omega) (by omega) (fun j => by rw [hl j]; congr 1; omega) (inv.set hr' (by omega)) hB' hy' hS (by rw [show k + 1 + hd.length = k + (hd.length + 1) by omega]; exact h)
    rw [show hd.length + 1 + l.length = (hd.length + l.length) + 1 by omega]
    exact wpAnyM_first hs hb hn h0 (by omega) (Region.noSelect_spec hsel) (fun c a w => hQ c _ _ w) _ listed a w inv (Region.free_spec h0 hf) hr' hv hS this
def firstB (md : Region.Mode) (ops : Array Oper) (n k : Nat) : Bool :=
  Region.noSelect ops && decide (n < ops.size) && decide (k ≤ n) && Region.sinkB md ops n && behindB md ops n && loadsB md ops (ops.size - k) k 0 (Array.replicate ops.size false)
/-- The first k operations load, S being held till the n-th one; the others stand in the text's order. -/
theorem region_loads {id : Nat} {a a' : Act} {w : World} {l : List Oper} (n k : Nat) (S : World → Prop) (hm : P.follows .mixedOrders = true) (hB : firstB .any l.toArray n k = true) (hQ : ∀ c a a' w, Q (.panic c) a w → Q (.panic c) a' w)
    (hS : S { w with drawn := w.drawn + 1 }) (hy : YieldsL P l.toArray S (l.take k) a a')
    (h : wpListS P l.toArray Q S n k (l.drop k) a' { w with drawn := w.drawn + 1 }) : (Code.region id l.toArray true).wp P Q a w := by
  simp only [firstB, Bool.and_eq_true, decide_eq_true_eq] at hB
  obtain ⟨⟨⟨⟨⟨hsel, hn⟩, hkn⟩, hs⟩, hb⟩, hh⟩ := hB
  have hn' : n < l.length := by simpa using hn
  have htl : (l.take k).length = k := by simp; omega
  have hdl : (l.drop k).length = l.toArray.size - k := by simp
  have inv0 : HeadInv .any l.toArray n (Array.replicate l.toArray.size false) :=
    ⟨by simp, fun j oj _ hl => absurd hl (by rw [getD_replicate_false]; exact Bool.false_ne_true), fun t _ ht => getD_in (by simpa using ht) (getD_replicate_false _ _)⟩
  have H := wpAnyM_loads (P := P) (md := .any) (S := S) hs hb hn hsel hQ (l.drop k) (l.take k) 0 _ a a' _ (fun j hj => by
    have hj' : j < k := by rw [htl] at hj; exact hj
    simp [hj']) (by rw [htl]; omega) (fun j => by rw [htl]; simp [List.getElem?_drop]) inv0 (by rw [htl, hdl]; exact hh) hy hS (by rw [htl, Nat.zero_add]; exact h)
  refine wp_region_any hm (wpAny_of_M (S := S) (n := n) _ _ _ _ ?_)
  rw [htl, hdl, show k + (l.toArray.size - k) = l.toArray.size by omega] at H
  exact H
/-- A step of the text's order. -/
theorem wpListS_step {o : Oper} {rest : List Oper} {i : Nat} {a : Act} {w : World} (h : ∀ K : Act → World → Prop, (∀ a' w', (i < n → S w') → wpListS P ops Q S n (i + 1) rest a' w' → K a' w') → if Region.wanted o (yielded ops a.tmps) = true then o.wp P a w K Q else K (a.put o.dst undef) w) : wpListS P ops Q S n i (o :: rest) a w := by
  have := h (fun a' w' => (i < n → S w') ∧ wpListS P ops Q S n (i + 1) rest a' w') (fun a' w' h1 h2 => ⟨h1, h2⟩)
  unfold wpListS
  split
  · rename_i hw
    rw [if_pos hw] at this
    exact .inl this
  · rename_i hw
    rw [if_neg hw] at this
    exact this
/-- From the n-th operation on: as ever. -/
theorem wpListS_late : ∀ {l : List Oper} {i : Nat} {a : Act} {w : World}, n ≤ i → wpList P ops Q l a w → wpListS P ops Q S n i l a w
  | [], _, _, _, _, h => h
  | o :: l, i, a, w, hi, h => by
    unfold wpList at h
    unfold wpListS
    split
    · rename_i hw
      rw [if_pos hw] at h
      exact h.imp (fun h => Oper.wp_mono (fun a' w' h2 => ⟨fun h3 => by omega, wpListS_late (by omega) h2⟩) h) id
    · rename_i hw
      rw [if_neg hw] at h
      exact ⟨fun h3 => by omega, wpListS_late (by omega) h⟩
end
end Go.Bl
