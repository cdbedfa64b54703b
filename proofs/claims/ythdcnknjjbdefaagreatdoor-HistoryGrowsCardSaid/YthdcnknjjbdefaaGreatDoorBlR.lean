/- A region that draws its order: quiet operations, then one that does what it likes, then quiet ones again. Proved for every program; no condition. -/
import Derived.Test.YthdcnknjjbdefaaGreatDoorBlA
import Derived.StillTailTactics
namespace Go.Bl

section
variable {P : Program} {ops : Array Oper} {md : Region.Mode}

/-- Whatever stands behind place n waits for something from n on. -/
def behindB (md : Region.Mode) (ops : Array Oper) (n : Nat) : Bool :=
  (List.range ops.size).all fun t => decide (t ≤ n) || (List.range t).any fun s => decide (n ≤ s) && Region.waitsFor md ops t s

theorem not_true_of {listed : Array Bool} {i : Nat} (h : listed.getD i true = false) : ¬ listed.getD i false = true := by rw [getD_both h]; exact Bool.false_ne_true

/-- While one of the first n is to come none of the others may. -/
theorem held_back {n : Nat} {listed : Array Bool} (hs : Region.sinkB md ops n = true) (hb : behindB md ops n = true) (inv : HeadInv md ops n listed) (hn : n < ops.size) :
    ∀ d i, n - i ≤ d → i < n → listed.getD i true = false → ∀ t, n ≤ t → t ∉ Region.ready md ops listed := by
  intro d
  induction d with
  | zero => intro i hd hi; omega
  | succ d ih =>
    intro i hd hi hun t ht hr
    obtain ⟨_, ot, hot, hall⟩ := mem_ready.1 hr
    by_cases htn : t = n
    · subst htn
      obtain ⟨j, hj, hw⟩ := List.any_eq_true.1 (List.all_eq_true.1 hs i (List.mem_range.2 hi))
      rw [Bool.and_eq_true, decide_eq_true_eq] at hw
      obtain ⟨oj, hoj, e, he, hbi, rfl⟩ := Region.waitsFor_spec hw.2
      rcases Nat.lt_or_ge j t with hjt | hjt
      · cases hl : listed.getD j false with
        | true => exact not_true_of hun (inv.closed j oj hoj hl e he hbi)
        | false => exact ih j (by omega) hjt (getD_in (by rw [inv.size]; omega) hl) t ht hr
      · obtain rfl : j = t := by have := List.mem_range.1 hj; omega
        obtain rfl : oj = ot := by rw [hoj] at hot; exact Option.some.inj hot
        exact not_true_of hun (hall e he hbi)
    · have h1 := List.all_eq_true.1 hb t (List.mem_range.2 (Array.getElem?_eq_some_iff.1 hot).1)
      rw [Bool.or_eq_true, decide_eq_true_eq] at h1
      obtain ⟨s, hs', hw⟩ := List.any_eq_true.1 (h1.resolve_left (by omega))
      rw [Bool.and_eq_true, decide_eq_true_eq] at hw
      obtain ⟨o', ho', e, he, hbi, rfl⟩ := Region.waitsFor_spec hw.2
      obtain rfl : o' = ot := by rw [ho'] at hot; exact Option.some.inj hot
      have hlt : e.on < ops.size := by
        have h1 := List.mem_range.1 hs'
        have h2 := (Array.getElem?_eq_some_iff.1 hot).1
        omega
      exact not_true_of (inv.tail e.on hw.1 hlt) (hall e he hbi)

variable {w : World} {L : Array Bool → Act → Prop}
/-- One of the first n that may come, and whose value hangs on no other, may come first. -/
theorem come_first {n i : Nat} {oi : Oper} {v : Value} (hs : Region.sinkB md ops n = true) (hb : behindB md ops n = true) (hn : n < ops.size) (hsel : Region.noSelect ops = true) (hi : ops[i]? = some oi) (hin : i < n)
    (hend : ∀ listed a, L listed a → ∀ j ∈ Region.ready md ops listed, n ≤ j) : ∀ (f : Nat) (listed : Array Bool) (a : Act), HeadInv md ops n listed →
    (∀ j oj, ops[j]? = some oj → j ≠ i → listed.getD j true = false → (∀ e ∈ oj.after, Region.binds md e = true → e.on ≠ i) → oi.apart ops oj = true) →
    i ∈ Region.ready md ops listed → YieldsAt P ops w oi v a → wpAnyL P md ops w n L f (listed.setIfInBounds i true) (a.put oi.dst v) → wpAnyL P md ops w n L (f + 1) listed a
  | f, listed, a, inv, hfree, hr, hy, H => by
    have hun := (mem_ready.1 hr).1
    refine ⟨List.ne_nil_of_mem hr, fun j hj => ?_⟩
    have hjn : j < n := Nat.lt_of_not_le fun h => held_back hs hb inv hn n i (by omega) hin hun j h hj
    refine ⟨hjn, ?_⟩
    by_cases hji : j = i
    · subst hji; exact hy.stOp hi H
    · have hj' := ready_mono hj hji
      match f with
      | 0 => exact absurd (hend _ _ H j hj') (by omega)
      | f + 1 =>
        obtain ⟨hjun, oj, hoj, hall⟩ := mem_ready.1 hj
        have hno : ∀ e ∈ oj.after, Region.binds md e = true → e.on ≠ i := fun e he hbi heq => not_true_of hun (heq ▸ hall e he hbi)
        have hsp := Region.noSelect_spec hsel
        have h2 := stOp_put hoj (hfree j oj hoj hji hjun hno) (fun cs b => hsp i oi cs b hi) (fun cs b => hsp j oj cs b hoj) hy (H.2 j hj').2
        refine stOp_mono (fun a' h3 => come_first hs hb hn hsel hi hin hend f _ a' (inv.set hj hjn) (fun k ok hk hki hunk => hfree k ok hk hki ?_) (ready_mono hr (Ne.symm hji)) h3.1 ?_) h2
        · by_cases hjk : j = k
          · subst hjk; exact hjun
          · rwa [getD_set_ne true hjk] at hunk
        · rw [Array.setIfInBounds_comm _ _ hji]; exact h3.2

/-- Behind the first n operations, in the text's order: n is next, and then all in the text's order. -/
def restB (md : Region.Mode) (ops : Array Oper) (g n : Nat) (listed : Array Bool) : Bool := decide (Region.ready md ops listed = [n]) && Region.lexFrom md ops g (n + 1) (listed.setIfInBounds n true)
def headB (md : Region.Mode) (ops : Array Oper) (g : Nat) : Nat → Nat → Array Bool → Bool
  | 0, k, listed => restB md ops g k listed
  | f + 1, k, listed => (Region.ready md ops listed).contains k && Region.free md ops listed k && headB md ops g f (k + 1) (listed.setIfInBounds k true)
def midB (md : Region.Mode) (ops : Array Oper) (n : Nat) : Bool :=
  Region.noSelect ops && decide (n < ops.size) && Region.sinkB md ops n && behindB md ops n && headB md ops (ops.size - (n + 1)) n 0 (Array.replicate ops.size false)

theorem head_lex {n g : Nat} {Lq : Act → Prop} (hs : Region.sinkB md ops n = true) (hb : behindB md ops n = true) (hn : n < ops.size) (hsel : Region.noSelect ops = true) :
    ∀ (l : List Oper) (k : Nat) (listed : Array Bool) (a : Act), (∀ j, j < l.length → l[j]? = ops[k + j]?) → k + l.length = n → HeadInv md ops n listed → headB md ops g l.length k listed = true → wpStill P ops w Lq l a →
    wpAnyL P md ops w n (fun listed' a' => restB md ops g n listed' = true ∧ Lq a') l.length listed a
  | [], k, listed, a, _, hk, _, hB, h => by
    obtain rfl : k = n := by simpa using hk
    exact ⟨hB, h⟩
  | o :: l, k, listed, a, hl, hk, inv, hB, h => by
    have h0 : ops[k]? = some o := (hl 0 (by simp)).symm.trans rfl
    simp only [List.length_cons, headB, Bool.and_eq_true] at hB
    have hr : k ∈ Region.ready md ops listed := by simpa using hB.1.1
    have hkn : k < n := by simp only [List.length_cons] at hk; omega
    obtain ⟨v, hy, hK⟩ := yieldsAt_of_stOp (P := P) (w := w) (K := wpStill P ops w Lq l) h0 (by unfold stOp; simp only [h0]; exact h)
    refine come_first hs hb hn hsel h0 hkn (fun listed' a' hL j hj => ?_) l.length listed a inv (Region.free_spec h0 hB.1.2) hr hy
      (head_lex hs hb hn hsel l (k + 1) _ _ (fun j hj => by have := hl (j + 1) (by simp; omega); rw [List.getElem?_cons_succ] at this; rw [this]; congr 1; omega) (by simp only [List.length_cons] at hk; omega) (inv.set hr hkn) hB.2 hK)
    have h1 := hL.1
    rw [restB, Bool.and_eq_true, decide_eq_true_eq] at h1
    rw [h1.1] at hj
    have : j = n := by simpa using hj
    omega

/-- What is left when the operation in the middle has run. -/
def Rest (P : Program) (ops : Array Oper) (l : List Oper) (Q : Exit → Act → World → Prop) (x : Exit) (a : Act) (w : World) : Prop :=
  match x with
  | .normal => wpStill P ops w (fun a' => Q .normal a' w) l a
  | x => Q x a w
theorem letsOut_rest {l : List Oper} {Q : Exit → Act → World → Prop} (h : LetsOut (Rest P ops l Q)) : LetsOut Q := h
theorem wp_rest {o : Oper} {a : Act} {w : World} {K : Act → World → Prop} {l : List Oper} {Q : Exit → Act → World → Prop} (h : o.wp P a w K (Rest P ops l Q)) : o.wp P a w K Q := by
  unfold Oper.wp at *
  generalize (execOp a.eval o).run P w = r at *
  cases r with
  | ok n w' =>
    cases n <;> simp only [Oper.upon] at h ⊢
    case enter f args => exact Calls.mono h (fun e w'' he => by cases e <;> exact he)
    all_goals exact h
  | halt x w' => cases x <;> simp only [Oper.upon] at h ⊢ <;> exact h

/-- A region that draws its order: its first n operations are quiet, the next one does what it likes, what stands behind is quiet again. -/
theorem region_mid {id : Nat} {Q : Exit → Act → World → Prop} {a : Act} {w : World} {l : List Oper} (n : Nat) {o : Oper} (ho : l[n]? = some o) (hm : P.follows .mixedOrders = true) (hB : midB .any l.toArray n = true)
    (h : wpStill P l.toArray { w with drawn := w.drawn + 1 } (fun a' => wpList P l.toArray (Rest P l.toArray (l.drop (n + 1)) Q) [o] a' { w with drawn := w.drawn + 1 }) (l.take n) a) : (Code.region id l.toArray true).wp P Q a w := by
  simp only [midB, Bool.and_eq_true, decide_eq_true_eq] at hB
  obtain ⟨⟨⟨⟨hsel, hn⟩, hs⟩, hb⟩, hh⟩ := hB
  have hn' : n < l.length := by simpa using hn
  have htl : (l.take n).length = n := by simp; omega
  have hdl : (l.drop (n + 1)).length = l.toArray.size - (n + 1) := by simp
  have inv0 : HeadInv .any l.toArray n (Array.replicate l.toArray.size false) :=
    ⟨by simp, fun j oj _ hl => absurd hl (by rw [getD_replicate_false]; exact Bool.false_ne_true), fun t _ ht => getD_in (by simpa using ht) (getD_replicate_false _ _)⟩
  have H := head_lex (P := P) (md := .any) (w := { w with drawn := w.drawn + 1 }) (g := l.toArray.size - (n + 1)) hs hb hn hsel (l.take n) 0 _ a (fun j hj => by
    have hj' : j < n := by rw [htl] at hj; exact hj
    simp [hj']) (by simpa using htl) inv0 (by rw [htl]; exact hh) h
  refine wp_region_any hm ?_
  have H2 := wpAny_of_head (Q' := Q) (g := l.toArray.size - (n + 1) + 1) (fun listed a' hL => by
    obtain ⟨h1, h2⟩ := hL
    rw [restB, Bool.and_eq_true, decide_eq_true_eq] at h1
    refine ⟨fun h0 => (by rw [h1.1] at h0; cases h0), fun i hi => ?_⟩
    rw [h1.1] at hi
    obtain rfl : i = n := by simpa using hi
    have hgo : ∀ a2 w2, wpStill P l.toArray w2 (fun a3 => Q .normal a3 w2) (l.drop (i + 1)) a2 → wpAny P .any l.toArray Q (l.toArray.size - (i + 1)) (listed.setIfInBounds i true) a2 w2 := fun a2 w2 hst => by
      rw [← hdl]
      exact wpAny_of_still (Q := fun a3 => Q .normal a3 w2) (fun _ h => h) _ _ _ (wpAnyS_lex hsel (l.drop (i + 1)) (i + 1) _ a2 (fun j => by simp [List.getElem?_drop]) (by rw [hdl]; exact h1.2) hst)
    have ho' : l.toArray[i]? = some o := by simpa using ho
    unfold wpList at h2
    unfold wpOp
    simp only [ho']
    split
    · rename_i hw
      rw [if_pos hw] at h2
      rcases h2 with h2 | ⟨h2, h3⟩
      · exact .inl (wp_rest (Oper.wp_mono (fun a2 w2 h => hgo a2 w2 h) h2))
      · exact .inr ⟨h2, letsOut_rest h3⟩
    · rename_i hw
      rw [if_neg hw] at h2
      exact hgo _ _ h2) _ _ _ H
  rw [htl, show n + (l.toArray.size - (n + 1) + 1) = l.toArray.size by omega] at H2
  exact H2
end
end Go.Bl
