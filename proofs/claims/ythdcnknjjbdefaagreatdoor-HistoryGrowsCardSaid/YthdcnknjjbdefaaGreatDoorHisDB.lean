/- The history: a log is played. Under the stated premises on sizes. -/
import Derived.Test.YthdcnknjjbdefaaGreatDoorBlT
import Derived.Test.YthdcnknjjbdefaaGreatDoorHisC
import Derived.Great.BuildSlice
import Derived.Test.YthdcnknjjbdefaaGreatDoorStaD
/- A region that draws its order, by what stays true: operations that only read are taken first; of the others each keeps a relation, in whatever order they come. Proved for every program; no condition. -/
namespace Go.Bl

section
variable {P : Program} {ops : Array Oper} {md : Region.Mode} {Q : Exit → Act → World → Prop} {S : World → Prop} {n : Nat}

/-- How many are still to come. -/
def toCome (L : Array Bool) : Nat := L.toList.count false
theorem count_set : ∀ (l : List Bool) (i : Nat), l[i]? = some false → (l.set i true).count false + 1 = l.count false
  | [], i, h => by simp at h
  | b :: l, 0, h => by
    obtain rfl : b = false := by simpa using h
    simp
  | b :: l, i + 1, h => by
    rw [List.getElem?_cons_succ] at h
    have := count_set l i h
    rw [List.set_cons_succ, List.count_cons, List.count_cons]
    omega
theorem toCome_set {L : Array Bool} {i : Nat} (h : L.getD i true = false) : toCome (L.setIfInBounds i true) + 1 = toCome L := by
  unfold toCome
  rw [Array.toList_setIfInBounds]
  refine count_set _ _ ?_
  rw [Array.getElem?_toList]
  rw [Array.getD_eq_getD_getElem?] at h
  cases h2 : L[i]? with
  | none => rw [h2] at h; simp at h
  | some b => rw [h2] at h; simpa using h
theorem toCome_none {L : Array Bool} {i : Nat} (h : L.getD i true = false) : 0 < toCome L := by have := toCome_set h; omega

/-- Whatever comes next keeps I: so I holds when all have come. -/
theorem wpAnyM_inv (I : Array Bool → Act → World → Prop) (hstep : ∀ L a w i, I L a w → i ∈ Region.ready md ops L → wpOp P ops Q i (fun a' w' => (i < n → S w') ∧ I (L.setIfInBounds i true) a' w') a w)
    (hend : ∀ L a w, I L a w → Region.ready md ops L = [] → Q .normal a w) : ∀ (fuel : Nat) (L : Array Bool) (a : Act) (w : World), toCome L ≤ fuel → I L a w → wpAnyM P md ops Q S n fuel L a w
  | 0, L, a, w, hf, h => by
    have hr : Region.ready md ops L = [] := List.eq_nil_iff_forall_not_mem.2 fun i hi => by have := toCome_none (mem_ready.1 hi).1; omega
    exact ⟨hr, hend L a w h hr⟩
  | fuel + 1, L, a, w, hf, h => ⟨fun hr => hend L a w h hr, fun i hi => wpOp_mono (fun a' w' h2 => ⟨h2.1, wpAnyM_inv I hstep hend fuel _ a' w' (by have := toCome_set (mem_ready.1 hi).1; omega) h2.2⟩) (hstep L a w i h hi)⟩

/-- Operations, by their numbers, that each leave a value in every world that meets S. -/
def YieldsI (P : Program) (ops : Array Oper) (S : World → Prop) : List Nat → Act → Act → Prop
  | [], a, a' => a' = a
  | i :: l, a, a' => ∃ v, YieldsIf P ops S ((ops[i]?).getD ⟨none, .move (.const undef), 0, "", #[], none⟩) v a ∧ YieldsI P ops S l (a.put ((ops[i]?).getD ⟨none, .move (.const undef), 0, "", #[], none⟩).dst v) a'
/-- Those numbers may come first, one behind the other. -/
def quietB (md : Region.Mode) (ops : Array Oper) (n : Nat) : List Nat → Array Bool → Bool
  | [], _ => true
  | i :: l, L => decide (i < n) && decide (i < ops.size) && (Region.ready md ops L).contains i && Region.free md ops L i && quietB md ops n l (L.setIfInBounds i true)
def markL : List Nat → Array Bool → Array Bool
  | [], L => L
  | i :: l, L => markL l (L.setIfInBounds i true)
theorem wpAnyM_quiet (hs : Region.sinkB md ops n = true) (hb : behindB md ops n = true) (hn : n < ops.size) (hsel : Region.noSelect ops = true) (hQ : ∀ c a a' w, Q (.panic c) a w → Q (.panic c) a' w) (f : Nat) :
    ∀ (hd : List Nat) (L : Array Bool) (a a' : Act) (w : World), HeadInv md ops n L → quietB md ops n hd L = true → YieldsI P ops S hd a a' → S w → wpAnyM P md ops Q S n f (markL hd L) a' w → wpAnyM P md ops Q S n (hd.length + f) L a w
  | [], L, a, a', w, _, _, hy, _, h => by
    obtain rfl : a' = a := hy
    rw [List.length_nil, Nat.zero_add]
    exact h
  | i :: hd, L, a, a', w, inv, hB, hy, hS, h => by
    simp only [quietB, Bool.and_eq_true, decide_eq_true_eq] at hB
    obtain ⟨⟨⟨⟨hin, hio⟩, hr⟩, hf⟩, hB'⟩ := hB
    have h0 : ops[i]? = some ops[i] := Array.getElem?_eq_getElem hio
    have hr' : i ∈ Region.ready md ops L := by simpa using hr
    obtain ⟨v, hv, hy'⟩ := hy
    rw [h0] at hv hy'
    have := wpAnyM_quiet hs hb hn hsel hQ f hd (L.setIfInBounds i true) (a.put ops[i].dst v) a' w (inv.set hr' hin) hB' hy' hS h
    rw [List.length_cons, show hd.length + 1 + f = (hd.length + f) + 1 by omega]
    exact wpAnyM_first hs hb hn h0 hin (Region.noSelect_spec hsel) (fun c a w => hQ c _ _ w) _ L a w inv (Region.free_spec h0 hf) hr' hv hS this

/-- The numbers that are left. -/
def leftL (ops : Array Oper) (L : Array Bool) : List Nat := (List.range ops.size).filter fun i => !L.getD i false
def freeB (md : Region.Mode) (ops : Array Oper) (n : Nat) (hd : List Nat) : Bool :=
  Region.noSelect ops && decide (n < ops.size) && Region.sinkB md ops n && behindB md ops n && quietB md ops n hd (Array.replicate ops.size false) && decide (toCome (markL hd (Array.replicate ops.size false)) + hd.length = ops.size) &&
    (List.range ops.size).all fun i => match ops[i]? with | none => false | some o => o.after.all fun e => decide (e.on < i) || !Region.binds md e
theorem markL_size : ∀ (l : List Nat) (L : Array Bool), (markL l L).size = L.size
  | [], _ => rfl
  | i :: l, L => by rw [markL, markL_size l]; simp
/-- A region of which some operations only read, ahead of the n-th one; of all the others each keeps J. -/
theorem region_free {id : Nat} {a a' : Act} {w : World} {l : List Oper} (n : Nat) (hd : List Nat) (S : World → Prop) (J : (Nat → Bool) → Act → World → Prop) (hm : P.follows .mixedOrders = true) (hB : freeB .any l.toArray n hd = true)
    (hQ : ∀ c a a' w, Q (.panic c) a w → Q (.panic c) a' w) (hS : S { w with drawn := w.drawn + 1 }) (hy : YieldsI P l.toArray S hd a a')
    (hJ : J (fun k => (markL hd (Array.replicate l.toArray.size false)).getD k false) a' { w with drawn := w.drawn + 1 })
    (hstep : ∀ i ∈ leftL l.toArray (markL hd (Array.replicate l.toArray.size false)), ∀ (β : Nat → Bool) (b : Act) (v : World), J β b v → β i = false → (∀ o, l[i]? = some o → ∀ e ∈ o.after, Region.binds .any e = true → β e.on = true) →
      wpOp P l.toArray Q i (fun b' v' => (i < n → S v') ∧ J (fun k => decide (k = i) || β k) b' v') b v)
    (hend : ∀ (β : Nat → Bool) (b : Act) (v : World), J β b v → (∀ i ∈ leftL l.toArray (markL hd (Array.replicate l.toArray.size false)), β i = true) → Q .normal b v) : (Code.region id l.toArray true).wp P Q a w := by
  simp only [freeB, Bool.and_eq_true, decide_eq_true_eq] at hB
  obtain ⟨⟨⟨⟨⟨⟨hsel, hn⟩, hs⟩, hb⟩, hq⟩, hc⟩, hac⟩ := hB
  have inv0 : HeadInv .any l.toArray n (Array.replicate l.toArray.size false) :=
    ⟨by simp, fun j oj _ hl => absurd hl (by rw [getD_replicate_false]; exact Bool.false_ne_true), fun t _ ht => getD_in (by simpa using ht) (getD_replicate_false _ _)⟩
  refine wp_region_any hm (wpAny_of_M (S := S) (n := n) _ _ _ _ ?_)
  have hsz : (markL hd (Array.replicate l.toArray.size false)).size = l.toArray.size := by rw [markL_size]; simp
  have H := wpAnyM_quiet (P := P) (Q := Q) (md := .any) (S := S) hs hb hn hsel hQ (toCome (markL hd (Array.replicate l.toArray.size false))) hd _ a a' _ inv0 hq hy hS ?_
  · rw [Nat.add_comm, hc] at H
    exact H
  generalize hL0 : markL hd (Array.replicate l.toArray.size false) = L0 at hJ hstep hend hsz ⊢
  refine wpAnyM_inv (fun L b v => L.size = l.toArray.size ∧ (∀ k, L0.getD k false = true → L.getD k false = true) ∧ J (fun k => L.getD k false) b v) ?_ ?_ _ L0 a' _ (Nat.le_refl _) ⟨hsz, fun _ h => h, hJ⟩
  · rintro L b v i ⟨h1, h2, h3⟩ hi
    obtain ⟨hun, o, ho, hall⟩ := mem_ready.1 hi
    have hil : i < l.toArray.size := (Array.getElem?_eq_some_iff.1 ho).1
    have hf : L.getD i false = false := by
      have hiL : i < L.size := by omega
      rw [Array.getD_eq_getD_getElem?, Array.getElem?_eq_getElem hiL] at hun ⊢
      exact hun
    have h4 := hstep i (by
      unfold leftL
      rw [List.mem_filter]
      refine ⟨List.mem_range.2 hil, ?_⟩
      cases e : L0.getD i false with
      | false => rfl
      | true => rw [h2 i e] at hf; cases hf) _ b v h3 hf (fun o' ho' e he hbi => by
        have : o' = o := by
          have h5 : l.toArray[i]? = some o' := by simpa using ho'
          rw [ho] at h5
          exact (Option.some.inj h5).symm
        subst this
        exact hall e he hbi)
    refine wpOp_mono (fun a2 w2 h5 => ⟨h5.1, by simp [h1], fun k hk => getD_set_true (h2 k hk), ?_⟩) h4
    have : (fun k => (L.setIfInBounds i true).getD k false) = fun k => decide (k = i) || L.getD k false := by
      funext k
      by_cases hk : k = i
      · subst hk
        rw [decide_eq_true rfl, Bool.true_or]
        have hiL : k < L.size := by omega
        simp [Array.getD_eq_getD_getElem?, hiL]
      · rw [getD_set_ne false (Ne.symm hk), decide_eq_false hk, Bool.false_or]
    rw [this]
    exact h5.2
  · rintro L b v ⟨h1, h2, h3⟩ hr
    refine hend _ b v h3 ?_
    -- all have come: else the first one that has not may come
    have hall : ∀ i, i < l.toArray.size → L.getD i false = true := by
      intro i
      induction i using Nat.strongRecOn with
      | _ i ih =>
        intro hi
        cases e : L.getD i false with
        | true => rfl
        | false =>
          exfalso
          have hiL : i < L.size := by omega
          have hun : L.getD i true = false := by
            rw [Array.getD_eq_getD_getElem?, Array.getElem?_eq_getElem hiL] at e ⊢
            exact e
          have hmem : i ∈ Region.ready .any l.toArray L := mem_ready.2 ⟨hun, l.toArray[i], Array.getElem?_eq_getElem hi, fun e he hbe => by
            have h6 := List.all_eq_true.1 hac i (List.mem_range.2 hi)
            rw [Array.getElem?_eq_getElem hi] at h6
            have h7 : (l.toArray[i]).after.all (fun e => decide (e.on < i) || !Region.binds .any e) = true := h6
            rw [Array.all_eq_true_iff_forall_mem] at h7
            have h9 := h7 e he
            rw [hbe, Bool.not_true, Bool.or_false] at h9
            have h8 := of_decide_eq_true h9
            exact ih e.on h8 (by omega)⟩
          rw [hr] at hmem
          cases hmem
    intro i hi
    unfold leftL at hi
    exact hall i (List.mem_range.1 (List.mem_filter.1 hi).1)
/-- Values laid into temporaries. -/
def putsL : List Nat → (Nat → Value) → Act → Act
  | [], _, a => a
  | s :: sl, X, a => putsL sl X (a.put (some s) (X s))
theorem put_twice (a : Act) (s : Nat) (u v : Value) : (a.put (some s) u).put (some s) v = a.put (some s) v := by
  unfold Act.put
  simp
theorem put_swap (a : Act) {s t : Nat} (h : s ≠ t) (u v : Value) : (a.put (some s) u).put (some t) v = (a.put (some t) v).put (some s) u := by
  unfold Act.put
  simp only [Act.mk.injEq, and_true]
  exact (Array.setIfInBounds_comm _ _ h)
theorem putsL_out : ∀ (sl : List Nat) (X : Nat → Value) (a : Act) (s : Nat) (x : Value), s ∉ sl → (putsL sl X a).put (some s) x = putsL sl X (a.put (some s) x)
  | [], _, _, _, _, _ => rfl
  | t :: sl, X, a, s, x, h => by
    rw [List.mem_cons, not_or] at h
    rw [putsL, putsL, putsL_out sl X _ s x h.2, put_swap _ (Ne.symm h.1)]
theorem putsL_congr : ∀ (sl : List Nat) (X Y : Nat → Value) (a : Act), (∀ s ∈ sl, X s = Y s) → putsL sl X a = putsL sl Y a
  | [], _, _, _, _ => rfl
  | t :: sl, X, Y, a, h => by
    rw [putsL, putsL, h t List.mem_cons_self]
    exact putsL_congr sl X Y _ fun s hs => h s (List.mem_cons_of_mem _ hs)
theorem putsL_put : ∀ (sl : List Nat) (X : Nat → Value) (a : Act) (d : Nat) (x : Value), sl.Nodup → d ∈ sl → (putsL sl X a).put (some d) x = putsL sl (fun k => if k = d then x else X k) a
  | [], _, _, _, _, _, h => by cases h
  | t :: sl, X, a, d, x, hn, h => by
    rw [List.nodup_cons] at hn
    by_cases e : d = t
    · subst e
      rw [putsL, putsL, putsL_out sl X _ d x hn.1, put_twice, if_pos rfl]
      exact putsL_congr sl _ _ _ fun s hs => by rw [if_neg fun (e : s = d) => hn.1 (e ▸ hs)]
    · rw [putsL, putsL, if_neg (Ne.symm e)]
      exact putsL_put sl X _ d x hn.2 ((List.mem_cons.1 h).resolve_left e)
theorem putsL_self : ∀ (sl : List Nat) (a : Act), putsL sl (fun k => a.tmps.getD k undef) a = a
  | [], _ => rfl
  | t :: sl, a => by
    rw [putsL]
    have : a.put (some t) (a.tmps.getD t undef) = a := by
      unfold Act.put
      show ({ a with tmps := a.tmps.setIfInBounds t (a.tmps.getD t undef) } : Act) = a
      by_cases h : t < a.tmps.size
      · have : a.tmps.setIfInBounds t (a.tmps.getD t undef) = a.tmps := by
          apply Array.ext
          · simp
          · intro i h1 h2
            rw [Array.getElem_setIfInBounds]
            split
            · rename_i e
              subst e
              simp
            · rfl
        rw [this]
      · have : a.tmps.setIfInBounds t (a.tmps.getD t undef) = a.tmps := by
          unfold Array.setIfInBounds
          rw [dif_neg h]
        rw [this]
    rw [this]
    exact putsL_self sl a
/-- What an operation leaves. -/
def newX (d : Option Nat) (x : Value) (X : Nat → Value) : Nat → Value := match d with | none => X | some t => fun k => if k = t then x else X k
theorem wpOp_of {i : Nat} {o : Oper} {K : Act → World → Prop} {a : Act} {w : World} (hi : ops[i]? = some o) (h : if Region.wanted o (yielded ops a.tmps) = true then o.wp P a w K Q else K (a.put o.dst undef) w) : wpOp P ops Q i K a w := by
  unfold wpOp
  simp only [hi]
  split
  · rename_i hw
    rw [if_pos hw] at h
    exact .inl h
  · rename_i hw
    rw [if_neg hw] at h
    exact h
theorem putsL_size : ∀ (sl : List Nat) (X : Nat → Value) (a : Act), (putsL sl X a).tmps.size = a.tmps.size
  | [], _, _ => rfl
  | t :: sl, X, a => by
    rw [putsL, putsL_size sl X]
    unfold Act.put
    simp
theorem putsL_out_eval : ∀ (sl : List Nat) (X : Nat → Value) (a : Act) (t : Nat), t ∉ sl → (putsL sl X a).eval (.tmp t) = a.eval (.tmp t)
  | [], _, _, _, _ => rfl
  | s :: sl, X, a, t, h => by
    rw [List.mem_cons, not_or] at h
    rw [putsL, putsL_out_eval sl X _ t h.2]
    unfold Act.put Act.eval
    show (a.tmps.setIfInBounds s (X s)).getD t undef = a.tmps.getD t undef
    rw [Array.getD_eq_getD_getElem?, Array.getD_eq_getD_getElem?, Array.getElem?_setIfInBounds, if_neg (Ne.symm h.1)]
theorem putsL_in_eval : ∀ (sl : List Nat) (X : Nat → Value) (a : Act) (t : Nat), sl.Nodup → t ∈ sl → t < a.tmps.size → (putsL sl X a).eval (.tmp t) = X t
  | [], _, _, _, _, h, _ => by cases h
  | s :: sl, X, a, t, hn, h, hs => by
    rw [List.nodup_cons] at hn
    rw [putsL]
    by_cases e : t = s
    · subst e
      rw [putsL_out_eval sl X _ t hn.1]
      unfold Act.put Act.eval
      show (a.tmps.setIfInBounds t (X t)).getD t undef = X t
      rw [Array.getD_eq_getD_getElem?, Array.getElem?_setIfInBounds, if_pos rfl, if_pos hs]
      rfl
    · exact putsL_in_eval sl X _ t hn.2 ((List.mem_cons.1 h).resolve_left e) (by unfold Act.put; simpa using hs)
def slB (l : List Oper) (sl lf : List Nat) : Bool := lf.all fun i => match (l[i]?).bind (·.dst) with | none => true | some d => sl.contains d
/-- A region of which some operations only read; of all the others (lf) each leaves a value, and keeps J. -/
theorem region_kept {id : Nat} {a a' : Act} {w : World} {l : List Oper} (n : Nat) (hd lf sl : List Nat) (S : World → Prop) (J : (Nat → Bool) → (Nat → Value) → World → Prop) (hm : P.follows .mixedOrders = true) (hB : freeB .any l.toArray n hd = true)
    (hlf : leftL l.toArray (markL hd (Array.replicate l.toArray.size false)) = lf) (hn : sl.Nodup) (hsl : slB l sl lf = true)
    (hQ : ∀ c a a' w, Q (.panic c) a w → Q (.panic c) a' w) (hS : S { w with drawn := w.drawn + 1 }) (hy : YieldsI P l.toArray S hd a a')
    (hJ : ∀ (β : Nat → Bool) (X : Nat → Value), (∀ i ∈ lf, β i = false) → J β X { w with drawn := w.drawn + 1 })
    (hstep : ∀ i ∈ lf, ∀ (β : Nat → Bool) (X : Nat → Value) (v : World), J β X v → β i = false → (∀ o, l[i]? = some o → ∀ e ∈ o.after, Region.binds .any e = true → β e.on = true) →
      ∀ b : Act, (∀ t, t ∉ sl → b.eval (.tmp t) = a'.eval (.tmp t)) → (∀ t, t ∈ sl → t < a'.tmps.size → b.eval (.tmp t) = X t) →
      ∀ K : Act → World → Prop, (∀ x v', (i < n → S v') → J (fun k => decide (k = i) || β k) (newX ((l[i]?).bind (·.dst)) x X) v' → K (b.put ((l[i]?).bind (·.dst)) x) v') → wpOp P l.toArray Q i K b v)
    (hend : ∀ (β : Nat → Bool) (X : Nat → Value) (v : World), J β X v → (∀ i ∈ lf, β i = true) → Q .normal (putsL sl X a') v) : (Code.region id l.toArray true).wp P Q a w := by
  refine region_free n hd S (fun β b v => ∃ X, b = putsL sl X a' ∧ J β X v) hm hB hQ hS hy ⟨_, (putsL_self sl a').symm, hJ _ _ fun i hi => ?_⟩ ?_ ?_
  · rw [← hlf] at hi
    have := (List.mem_filter.1 hi).2
    simpa using this
  · rw [hlf]
    rintro i hi β b v ⟨X, rfl, hX⟩ hb hdep
    refine hstep i hi β X v hX hb hdep _ (fun t ht => putsL_out_eval sl X a' t ht) (fun t ht hs => putsL_in_eval sl X a' t hn ht hs) _ fun x v' h1 h2 => ⟨h1, ?_⟩
    have h3 := List.all_eq_true.1 hsl i hi
    cases hd2 : (l[i]?).bind (·.dst) with
    | none =>
      rw [hd2] at h2
      exact ⟨X, rfl, h2⟩
    | some d =>
      rw [hd2] at h2
      simp only [hd2] at h3
      exact ⟨_, putsL_put sl X a' d x hn (by simpa using h3), h2⟩
  · rw [hlf]
    rintro β b v ⟨X, rfl, hX⟩ hall
    exact hend β X v hX hall
/-- What an operation waits for has come. -/
theorem edge_came {β : Nat → Bool} {l : List Oper} {i : Nat} {o : Oper} (ho : l[i]? = some o) (h : ∀ o, l[i]? = some o → ∀ e ∈ o.after, Region.binds .any e = true → β e.on = true) (k : Nat) (hk : o.after.any (fun e => decide (e.on = k) && Region.binds .any e) = true) : β k = true := by
  obtain ⟨i, hi, he2⟩ := Array.any_eq_true.1 hk
  rw [Bool.and_eq_true, decide_eq_true_eq] at he2
  have := h o ho o.after[i] (Array.getElem_mem hi) he2.2
  rw [he2.1] at this
  exact this
end
end Go.Bl

/- The history: a log is played: what the loop keeps. Under the stated premises on sizes. -/
namespace Go.Proofs.YthdcnknjjbdefaaGreatDoor.His
open Go.RowKit Go.Bl

theorem infoPs : (Tryz.prog.info? 104).map (fun i => (i.zero, i.size, i.bytes)) = some (some (.pointer none), 1, 8) := by kernel_rfl
theorem ptrc_one (x : Nat) (u : Value) (h : u ∈ ptrc x) : u.oneCell' = true := by
  obtain rfl := List.mem_singleton.1 h
  rfl
theorem elPs : El Tryz.prog 106 104 1 8 ptrc := ⟨Tryz.underlying106, ⟨_, infoPs, rfl⟩, by decide, by decide, fun _ => rfl, ptrc_one⟩
theorem infoOc : (Tryz.prog.info? 34).map (fun i => (i.zero, i.size, i.bytes)) = some (some (.agg #[.int .i64 0, .int .i64 0, .int .i64 0, .int .i64 0]), 4, 32) := by kernel_rfl
theorem occ_one (x : Ded.Oc) (u : Value) (h : u ∈ Ded.occ x) : u.oneCell' = true := by
  simp only [Ded.occ, List.mem_cons, List.not_mem_nil, or_false] at h
  rcases h with rfl | rfl | rfl | rfl <;> rfl
theorem elOcs : El Tryz.prog 107 34 4 32 Ded.occ := ⟨Tryz.underlying107, ⟨_, infoOc, rfl⟩, by decide, by decide, fun _ => rfl, occ_one⟩

/-- Amid the play of a log: k entries are taken. b: what is older. -/
structure PdIn (wr : World) (b p q : Nat) (vl vs vo : Value) (log : List Ent) (k : Nat) (ps : List Nat) (F W : Nat → Prop) : Prop where
  blk : wr.heap[p]? = some (.cells #[vl, vs, vo] 109 (0, 0))
  bp : b ≤ p
  st : StAt wr q (stK log k) F W
  low : ∀ x, W x → b ≤ x
  np : ¬ F p
  own : Own wr b 104 1 ptrc vs ps
  len : ps.length = k + 1
  outs : Own wr b 34 4 Ded.occ vo ((List.range k).map (outK log))
  ns : ∀ x, vs.ownBlock = some x → ¬ F x ∧ x ≠ p
  no : ∀ x, vo.ownBlock = some x → ¬ F x ∧ x ≠ p
  nso : ∀ x, vs.ownBlock = some x → vo.ownBlock = some x → False
  kept : ∀ j q', ps[j]? = some q' → ∃ F' W', StAt wr q' (stK log j) F' W' ∧ ∀ x, F' x → ¬ W x ∧ x ≠ p ∧ vs.ownBlock ≠ some x ∧ vo.ownBlock ≠ some x
section
variable {w w2 w3 : World} {b p q : Nat} {vl vs vo vs' vo' : Value} {log : List Ent} {k : Nat} {ps : List Nat} {F W F2 W2 : Nat → Prop}
theorem PdIn.fresh (h : PdIn w b p q vl vs vo log k ps F W) (hB : Below w.heap.size w w2) : PdIn w2 b p q vl vs vo log k ps F W :=
  ⟨(hB.block p (Array.getElem?_eq_some_iff.1 h.blk).1).trans h.blk, h.bp, h.st.fresh hB, h.low, h.np, h.own.fresh hB, h.len, h.outs.fresh hB, h.ns, h.no, h.nso, fun j q' e => by
    obtain ⟨F', W', h1, h2⟩ := h.kept j q' e
    exact ⟨F', W', h1.fresh hB, h2⟩⟩
theorem PdIn.plt (h : PdIn w b p q vl vs vo log k ps F W) : p < w.heap.size := (Array.getElem?_eq_some_iff.1 h.blk).1
/-- An entry is taken: all but the working state stays. -/
structure PdMid (wr : World) (b p q : Nat) (vl vs vo : Value) (log : List Ent) (k : Nat) (ps : List Nat) (F W : Nat → Prop) : Prop where
  blk : wr.heap[p]? = some (.cells #[vl, vs, vo] 109 (0, 0))
  bp : b ≤ p
  st : StAt wr q (stK log (k + 1)) F W
  low : ∀ x, W x → b ≤ x
  np : ¬ F p
  own : Own wr b 104 1 ptrc vs ps
  len : ps.length = k + 1
  outs : Own wr b 34 4 Ded.occ vo ((List.range k).map (outK log))
  ns : ∀ x, vs.ownBlock = some x → ¬ F x ∧ x ≠ p
  no : ∀ x, vo.ownBlock = some x → ¬ F x ∧ x ≠ p
  nso : ∀ x, vs.ownBlock = some x → vo.ownBlock = some x → False
  kept : ∀ j q', ps[j]? = some q' → ∃ F' W', StAt wr q' (stK log j) F' W' ∧ ∀ x, F' x → ¬ W x ∧ x ≠ p ∧ vs.ownBlock ≠ some x ∧ vo.ownBlock ≠ some x
theorem PdMid.fresh (h : PdMid w b p q vl vs vo log k ps F W) (hB : Below w.heap.size w w2) : PdMid w2 b p q vl vs vo log k ps F W :=
  ⟨(hB.block p (Array.getElem?_eq_some_iff.1 h.blk).1).trans h.blk, h.bp, h.st.fresh hB, h.low, h.np, h.own.fresh hB, h.len, h.outs.fresh hB, h.ns, h.no, h.nso, fun j q' e => by
    obtain ⟨F', W', h1, h2⟩ := h.kept j q' e
    exact ⟨F', W', h1.fresh hB, h2⟩⟩
theorem PdMid.plt (h : PdMid w b p q vl vs vo log k ps F W) : p < w.heap.size := (Array.getElem?_eq_some_iff.1 h.blk).1
theorem PdIn.take (h : PdIn w b p q vl vs vo log k ps F W) (hk : k < log.length) (hA : Applied w w2 q (applyS (stK log k) log[k]).1 F W) (hb : b ≤ w.heap.size) : ∃ F2 W2, PdMid w2 b p q vl vs vo log k ps F2 W2 := by
  obtain ⟨W2, h1, h2, h3⟩ := hA
  rw [← stK_succ hk] at h2
  have hwf := h.st.wf
  have hpl := h.plt
  have hWx : ∀ x, x < w.heap.size → ¬ F x → ¬ W x := fun x _ hn hw => hn (hwf x hw)
  refine ⟨_, W2, h3.grownTo h.blk (fun hw => h.np (hwf p hw)), h.bp, h2, fun x hx => ?_, fun hp => ?_, h.own.keep h3 (fun x hx hw => (h.ns x hx).1 (hwf x hw)), h.len, h.outs.keep h3 (fun x hx hw => (h.no x hx).1 (hwf x hw)), fun x hx => ⟨fun hf => ?_, (h.ns x hx).2⟩, fun x hx => ⟨fun hf => ?_, (h.no x hx).2⟩, h.nso, fun j q' e => ?_⟩
  · rcases h1 x hx with h4 | h4
    · exact h.low x h4
    · omega
  · rcases hp with hp | hp
    · exact h.np hp
    · omega
  · rcases hf with hf | hf
    · exact (h.ns x hx).1 hf
    · have := (h.own.lt x hx).2; omega
  · rcases hf with hf | hf
    · exact (h.no x hx).1 hf
    · have := (h.outs.lt x hx).2; omega
  · obtain ⟨F', W', h4, h5⟩ := h.kept j q' e
    refine ⟨F', W', h4.keep h3 (fun x hx => (h5 x hx).1), fun x hx => ⟨fun hw => ?_, (h5 x hx).2⟩⟩
    rcases h1 x hw with h6 | h6
    · exact (h5 x hx).1 h6
    · have := h4.lt x hx; omega
/-- The state is kept beside the others, what it told as well. -/
theorem PdMid.put (h : PdMid w b p q vl vs vo log k ps F W) {q3 : Nat} {F3 W3 : Nat → Prop} (hK : Keeps (fun x => x = p ∨ vs.ownBlock = some x ∨ vo.ownBlock = some x) w w3) (hblk : w3.heap[p]? = some (.cells #[vl, vs', vo'] 109 (0, 0)))
    (hown : Own w3 b 104 1 ptrc vs' (ps ++ [q3])) (houts : Own w3 b 34 4 Ded.occ vo' ((List.range k).map (outK log) ++ [outK log k])) (hs : vs'.ownBlock = vs.ownBlock ∨ ∀ x, vs'.ownBlock = some x → w.heap.size ≤ x) (ho : vo'.ownBlock = vo.ownBlock ∨ ∀ x, vo'.ownBlock = some x → w.heap.size ≤ x)
    (hso : ∀ x, vs'.ownBlock = some x → vo'.ownBlock = some x → False) (hst : StAt w3 q3 (stK log (k + 1)) F3 W3) (hF3 : ∀ x, F3 x → ((F x ∧ ¬ W x) ∨ w.heap.size ≤ x) ∧ vs'.ownBlock ≠ some x ∧ vo'.ownBlock ≠ some x) : PdIn w3 b p q vl vs' vo' log (k + 1) (ps ++ [q3]) F W := by
  have hpl := h.plt
  have hfl := h.st.lt
  have hnew : ∀ x, vs'.ownBlock = some x → (vs.ownBlock = some x ∨ w.heap.size ≤ x) := fun x hx => by
    rcases hs with e | e
    · exact .inl (e ▸ hx)
    · exact .inr (e x hx)
  have hnewo : ∀ x, vo'.ownBlock = some x → (vo.ownBlock = some x ∨ w.heap.size ≤ x) := fun x hx => by
    rcases ho with e | e
    · exact .inl (e ▸ hx)
    · exact .inr (e x hx)
  refine ⟨hblk, h.bp, h.st.keep hK (fun x hx hg => ?_), h.low, h.np, hown, by rw [List.length_append, h.len, List.length_singleton], by rw [List.range_succ, List.map_append]; exact houts, fun x hx => ?_, fun x hx => ?_, hso, fun j q' e => ?_⟩
  · rcases hg with hg | hg | hg
    · exact h.np (hg ▸ hx)
    · exact (h.ns x hg).1 hx
    · exact (h.no x hg).1 hx
  · rcases hnew x hx with e | e
    · exact h.ns x e
    · exact ⟨fun hf => by have := hfl x hf; omega, by omega⟩
  · rcases hnewo x hx with e | e
    · exact h.no x e
    · exact ⟨fun hf => by have := hfl x hf; omega, by omega⟩
  · by_cases hj : j < ps.length
    · rw [List.getElem?_append_left hj] at e
      obtain ⟨F', W', h4, h5⟩ := h.kept j q' e
      refine ⟨F', W', h4.keep hK (fun x hx hg => ?_), fun x hx => ⟨(h5 x hx).1, (h5 x hx).2.1, fun hv => ?_, fun hv => ?_⟩⟩
      · rcases hg with hg | hg | hg
        · exact (h5 x hx).2.1 hg
        · exact (h5 x hx).2.2.1 hg
        · exact (h5 x hx).2.2.2 hg
      · rcases hnew x hv with e | e
        · exact (h5 x hx).2.2.1 e
        · have := h4.lt x hx; omega
      · rcases hnewo x hv with e | e
        · exact (h5 x hx).2.2.2 e
        · have := h4.lt x hx; omega
    · rw [List.getElem?_append_right (by omega)] at e
      have hj2 : j - ps.length = 0 := by
        have := (List.getElem?_eq_some_iff.1 e).1
        rw [List.length_singleton] at this
        omega
      rw [hj2] at e
      have e : q3 = q' := by simpa using e
      subst e
      have hjk : j = k + 1 := by have := h.len; omega
      subst hjk
      refine ⟨F3, W3, hst, fun x hx => ?_⟩
      obtain ⟨h6, h7, h8⟩ := hF3 x hx
      refine ⟨fun hw => ?_, fun e => ?_, h7, h8⟩
      · rcases h6 with h6 | h6
        · exact h6.2 hw
        · have := hfl x (h.st.wf x hw); omega
      · subst e
        rcases h6 with h6 | h6
        · exact h.np h6.1
        · omega
theorem PdIn.out (h : PdIn w b p q vl vs vo log log.length ps F W) (hl : Sl w (fun _ => True) 7 entc vl log) : PlAt w p log :=
  ⟨vl, vs, vo, ps, h.blk, hl, (h.own.sl elPs.len).mono (fun _ _ _ => trivial), h.len, (h.outs.sl elOcs.len).mono (fun _ _ _ => trivial), fun k q e => by
    obtain ⟨F', W', h1, _⟩ := h.kept k q e
    exact ⟨F', W', h1⟩⟩
end
end Go.Proofs.YthdcnknjjbdefaaGreatDoor.His

/- The history: a log is played: the region that keeps a state and an outcome. Under the stated premises on sizes. -/
namespace Go.Proofs.YthdcnknjjbdefaaGreatDoor.His
open Go.RowKit Go.Bl
attribute [local go_sem ↓] Go.wp_at_zero Go.wp_at_succ

theorem ff {a b : Bool} (hb : b = false) (h : a = true → b = true) : a = false := by
  cases a
  · rfl
  · rw [h rfl] at hb
    cases hb
/-- A slice of one pointer; of one outcome. -/
theorem wpOp_layS {l : List Oper} {i : Nat} {o : Oper} {b : Act} {u : World} {K : Act → World → Prop} {Q : Exit → Act → World → Prop} (s q : Nat) (ho : l[i]? = some o) (hg : o.guard = none) (hop : o.op = .buildSlice 106 1 #[(0, .tmp s)]) (hb : b.eval (.tmp s) = .pointer (some ⟨q, 0, none⟩))
    (h : K (b.put ((l[i]?).bind (·.dst)) (.slice (some ⟨u.heap.size, 0, none⟩) 1 1)) (u.alloc (.cells #[.pointer (some ⟨q, 0, none⟩)] 104))) : wpOp Tryz.prog l.toArray Q i K b u := by
  rw [ho] at h
  refine wpOp_of (o := o) (by simpa using ho) ?_
  rw [if_pos (by simp [Region.wanted, hg])]
  obtain ⟨i0, hi, h1, h2, h3⟩ := info_parts infoPs
  refine wp_buildSlice 106 104 1 #[(0, .tmp s)] hop #[.pointer (some ⟨q, 0, none⟩)] i0 (.pointer none) Tryz.underlying106 hi h1 (by rw [h2]; decide) (by rw [h2]; decide) ?_ h
  rw [h2]
  simp only [List.map_toArray, List.map_cons, List.map_nil, hb]
  kernel_rfl
theorem wpOp_layO {l : List Oper} {i : Nat} {o : Oper} {b : Act} {u : World} {K : Act → World → Prop} {Q : Exit → Act → World → Prop} (s : Nat) (r1 r2 r3 r4 : Int) (ho : l[i]? = some o) (hg : o.guard = none) (hop : o.op = .buildSlice 107 1 #[(0, .tmp s)]) (hb : b.eval (.tmp s) = .agg #[.int .i64 r1, .int .i64 r2, .int .i64 r3, .int .i64 r4])
    (h : K (b.put ((l[i]?).bind (·.dst)) (.slice (some ⟨u.heap.size, 0, none⟩) 1 1)) (u.alloc (.cells #[.int .i64 r1, .int .i64 r2, .int .i64 r3, .int .i64 r4] 34))) : wpOp Tryz.prog l.toArray Q i K b u := by
  rw [ho] at h
  refine wpOp_of (o := o) (by simpa using ho) ?_
  rw [if_pos (by simp [Region.wanted, hg])]
  obtain ⟨i0, hi, h1, h2, h3⟩ := info_parts infoOc
  refine wp_buildSlice 107 34 1 #[(0, .tmp s)] hop #[.int .i64 r1, .int .i64 r2, .int .i64 r3, .int .i64 r4] i0 (.agg #[.int .i64 0, .int .i64 0, .int .i64 0, .int .i64 0]) Tryz.underlying107 hi h1 (by rw [h2]; decide) (by rw [h2]; decide) ?_ h
  rw [h2]
  simp only [List.map_toArray, List.map_cons, List.map_nil, hb]
  kernel_rfl
theorem wpOp_callx {P : Program} {l : List Oper} {i : Nat} {o : Oper} {b : Act} {u : World} {K : Act → World → Prop} {Q : Exit → Act → World → Prop} (f : FuncId) (s : Nat) (t : TypeId) (v : Value) (ho : l[i]? = some o) (hg : o.guard = none)
    (hop : o.op = .call { callee := .value (.func f), args := #[.tmp s], argTypes := #[t] }) (hb : b.eval (.tmp s) = v) (hcf : (callFunc f #[v]).run P u = .ok (.enter f #[v]) u) (hc : Calls P f #[v] u fun e w' => ∃ r, e = .returned r ∧ K (b.put ((l[i]?).bind (·.dst)) r) w') : wpOp P l.toArray Q i K b u := by
  rw [ho] at hc
  refine wpOp_of (o := o) (by simpa using ho) ?_
  rw [if_pos (by simp [Region.wanted, hg])]
  have hrun : (execOp b.eval o).run P u = .ok (.enter f #[v]) u := by
    have hb' : (b.tmps[s]?).getD undef = v := by rw [← Array.getD_eq_getD_getElem?]; exact hb
    clear hb hc
    unfold execOp
    rw [hop]
    go_simp
  unfold Oper.wp
  rw [hrun, Oper.upon_enter]
  refine hc.mono fun e w'' hh => ?_
  obtain ⟨r, rfl, hK⟩ := hh
  exact hK

/-- Amid the region: what is made already. w6: the world ahead of it. -/
structure JP (w6 : World) (b p : Nat) (vl vs vo : Value) (log : List Ent) (k : Nat) (ps : List Nat) (F W : Nat → Prop) (β : Nat → Bool) (X : Nat → Value) (u : World) : Prop where
  kk : Keeps (fun x => x = p ∨ vs.ownBlock = some x ∨ vo.ownBlock = some x) w6 u
  c : u.heap[p]? = some (.cells #[vl, if β 19 = true then X 39 else vs, if β 22 = true then X 46 else vo] 109 (0, 0))
  f7 : β 7 = true → ∃ q3 F3 W3, X 37 = .pointer (some ⟨q3, 0, none⟩) ∧ StAt u q3 (stK log (k + 1)) F3 W3 ∧ (∀ x, F3 x → (F x ∧ ¬ W x) ∨ w6.heap.size ≤ x) ∧ (β 9 = true → (∀ x, F3 x → (X 39).ownBlock ≠ some x) ∧ Own u b 104 1 ptrc (X 39) (ps ++ [q3])) ∧ (β 16 = true → ∀ x, F3 x → (X 46).ownBlock ≠ some x)
  f8 : β 8 = true → ∃ g, X 38 = .slice (some ⟨g, 0, none⟩) 1 1 ∧ w6.heap.size ≤ g ∧ u.heap[g]? = some (.cells #[X 37] 104 (0, 0))
  s9 : β 9 = false → Own u b 104 1 ptrc vs ps
  a9 : β 9 = true → (X 39).ownBlock = vs.ownBlock ∨ ∀ x, (X 39).ownBlock = some x → w6.heap.size ≤ x
  f15 : β 15 = true → ∃ g, X 45 = .slice (some ⟨g, 0, none⟩) 1 1 ∧ w6.heap.size ≤ g ∧ u.heap[g]? = some (.cells (Ded.occ (outK log k)).toArray 34 (0, 0))
  s16 : β 16 = false → Own u b 34 4 Ded.occ vo ((List.range k).map (outK log))
  f16 : β 16 = true → Own u b 34 4 Ded.occ (X 46) ((List.range k).map (outK log) ++ [outK log k])
  a16 : β 16 = true → (X 46).ownBlock = vo.ownBlock ∨ ∀ x, (X 46).ownBlock = some x → w6.heap.size ≤ x
  so : β 9 = true → β 16 = true → ∀ x, (X 39).ownBlock = some x → (X 46).ownBlock = some x → False
  w8 : β 8 = true → β 7 = true
  w9 : β 9 = true → β 8 = true ∧ β 5 = true
  w16 : β 16 = true → β 9 = true ∧ β 15 = true
  w19 : β 19 = true → β 16 = true ∧ β 18 = true
  w22 : β 22 = true → β 19 = true ∧ β 21 = true
  p17 : β 17 = true → X 47 = .pointer (some ⟨p, 0, none⟩) ∧ β 16 = true
  p18 : β 18 = true → X 48 = .pointer (some ⟨p, 1, none⟩) ∧ β 17 = true
  p20 : β 20 = true → X 49 = .pointer (some ⟨p, 0, none⟩) ∧ β 16 = true
  p21 : β 21 = true → X 50 = .pointer (some ⟨p, 2, none⟩) ∧ β 20 = true
  p5 : β 5 = true → X 35 = vs
section
variable {w6 u u' : World} {b p : Nat} {vl vs vo : Value} {log : List Ent} {k q : Nat} {ps : List Nat} {F W : Nat → Prop} {β : Nat → Bool} {X : Nat → Value}
/-- What a step changes is none of what is made. -/
theorem JP.move {G' : Nat → Prop} (hM : PdMid w6 b p q vl vs vo log k ps F W) (h : JP w6 b p vl vs vo log k ps F W β X u) (hk : Keeps G' u u') (hG : ∀ x, G' x → x = p ∨ vs.ownBlock = some x ∨ vo.ownBlock = some x)
    (h9 : β 9 = false → ∀ x, vs.ownBlock = some x → ¬ G' x) (h39 : β 9 = true → ∀ x, (X 39).ownBlock = some x → ¬ G' x) (h16 : β 16 = false → ∀ x, vo.ownBlock = some x → ¬ G' x) (h46 : β 16 = true → ∀ x, (X 46).ownBlock = some x → ¬ G' x) (hc : ¬ G' p) : JP w6 b p vl vs vo log k ps F W β X u' := by
  have hlt : ∀ x, G' x → x < w6.heap.size := fun x hx => by
    rcases hG x hx with e | e | e
    · rw [e]; exact hM.plt
    · exact (hM.own.lt x e).2
    · exact (hM.outs.lt x e).2
  refine ⟨h.kk.andThen hk (fun x _ hx => hG x hx), hk.grownTo h.c hc, fun e => ?_, fun e => ?_, fun e => (h.s9 e).keep hk (h9 e), h.a9, fun e => ?_, fun e => (h.s16 e).keep hk (h16 e), fun e => (h.f16 e).keep hk (h46 e), h.a16, h.so, h.w8, h.w9, h.w16, h.w19, h.w22, h.p17, h.p18, h.p20, h.p21, h.p5⟩
  · obtain ⟨q3, F3, W3, a1, a2, a3, a4, a5⟩ := h.f7 e
    refine ⟨q3, F3, W3, a1, a2.keep hk (fun x hx hg => ?_), a3, fun e => ⟨(a4 e).1, (a4 e).2.keep hk (h39 e)⟩, a5⟩
    rcases a3 x hx with ⟨h1, _⟩ | h1
    · rcases hG x hg with e | e | e
      · exact hM.np (e ▸ h1)
      · exact (hM.ns x e).1 h1
      · exact (hM.no x e).1 h1
    · have := hlt x hg; omega
  · obtain ⟨g, a1, a2, a3⟩ := h.f8 e
    exact ⟨g, a1, a2, hk.grownTo a3 (fun hg => by have := hlt g hg; omega)⟩
  · obtain ⟨g, a1, a2, a3⟩ := h.f15 e
    exact ⟨g, a1, a2, hk.grownTo a3 (fun hg => by have := hlt g hg; omega)⟩
theorem JP.fresh (hM : PdMid w6 b p q vl vs vo log k ps F W) (h : JP w6 b p vl vs vo log k ps F W β X u) (hB : Below u.heap.size u u') : JP w6 b p vl vs vo log k ps F W β X u' :=
  h.move (G' := fun _ => False) hM (Keeps.of_fresh hB _) (fun _ h => h.elim) (fun _ _ _ h => h) (fun _ _ _ h => h) (fun _ _ _ h => h) (fun _ _ _ h => h) id
/-- The state comes. -/
theorem JP.come (hM : PdMid w6 b p q vl vs vo log k ps F W) (h : JP w6 b p vl vs vo log k ps F W β X u) (h7 : β 7 = false) {q3 : Nat} {F3 W3 : Nat → Prop} (hB : Below u.heap.size u u') (hS : StAt u' q3 (stK log (k + 1)) F3 W3) (hF : ∀ x, F3 x → (F x ∧ ¬ W x) ∨ u.heap.size ≤ x) :
    JP w6 b p vl vs vo log k ps F W (fun n => decide (n = 7) || β n) (newX (some 37) (.pointer (some ⟨q3, 0, none⟩)) X) u' := by
  have h8 := ff h7 h.w8
  have h9 := ff h8 fun e => (h.w9 e).1
  have h16 := ff h9 fun e => (h.w16 e).1
  have h' := h.fresh hM hB
  refine ⟨h'.kk, h'.c, fun _ => ⟨q3, F3, W3, rfl, hS, fun x hx => ?_, fun e => ?_, fun e => ?_⟩, fun e => ?_, h'.s9, h'.a9, h'.f15, h'.s16, h'.f16, h'.a16, h'.so, fun _ => rfl, h'.w9, h'.w16, h'.w19, h'.w22, h'.p17, h'.p18, h'.p20, h'.p21, h'.p5⟩
  · rcases hF x hx with e | e
    · exact .inl e
    · exact .inr (Nat.le_trans h.kk.size e)
  · have e : β 9 = true := e
    rw [h9] at e; cases e
  · have e : β 16 = true := e
    rw [h16] at e; cases e
  · have e : β 8 = true := e
    rw [h8] at e; cases e
theorem JP.lay1 (hM : PdMid w6 b p q vl vs vo log k ps F W) (h : JP w6 b p vl vs vo log k ps F W β X u) (h7 : β 7 = true) :
    JP w6 b p vl vs vo log k ps F W (fun n => decide (n = 8) || β n) (newX (some 38) (.slice (some ⟨u.heap.size, 0, none⟩) 1 1) X) (u.alloc (.cells #[X 37] 104)) := by
  have h' := h.fresh hM ((Below.refl _ u).alloc (Nat.le_refl _) (.cells #[X 37] 104))
  exact ⟨h'.kk, h'.c, h'.f7, fun _ => ⟨_, rfl, h.kk.size, heap_alloc_new _ _⟩, h'.s9, h'.a9, h'.f15, h'.s16, h'.f16, h'.a16, h'.so, fun _ => h7, fun e => ⟨rfl, (h'.w9 e).2⟩, h'.w16, h'.w19, h'.w22, h'.p17, h'.p18, h'.p20, h'.p21, h'.p5⟩
theorem JP.lay2 (hM : PdMid w6 b p q vl vs vo log k ps F W) (h : JP w6 b p vl vs vo log k ps F W β X u) :
    JP w6 b p vl vs vo log k ps F W (fun n => decide (n = 15) || β n) (newX (some 45) (.slice (some ⟨u.heap.size, 0, none⟩) 1 1) X) (u.alloc (.cells (Ded.occ (outK log k)).toArray 34)) := by
  have h' := h.fresh hM ((Below.refl _ u).alloc (Nat.le_refl _) (.cells (Ded.occ (outK log k)).toArray 34))
  exact ⟨h'.kk, h'.c, h'.f7, h'.f8, h'.s9, h'.a9, fun _ => ⟨_, rfl, h.kk.size, heap_alloc_new _ _⟩, h'.s16, h'.f16, h'.a16, h'.so, h'.w8, h'.w9, fun e => ⟨(h'.w16 e).1, rfl⟩, h'.w19, h'.w22, h'.p17, h'.p18, h'.p20, h'.p21, h'.p5⟩
theorem JP.at38 (h : JP w6 b p vl vs vo log k ps F W β X u) (h8 : β 8 = true) : ∃ q3 g, X 37 = .pointer (some ⟨q3, 0, none⟩) ∧ X 38 = .slice (some ⟨g, 0, none⟩) 1 1 ∧ Sl u (fun _ => True) 1 ptrc (.slice (some ⟨g, 0, none⟩) 1 1) [q3] := by
  obtain ⟨q3, _, _, e1, _⟩ := h.f7 (h.w8 h8)
  obtain ⟨g, e2, _, e3⟩ := h.f8 h8
  rw [e1] at e3
  exact ⟨q3, g, e1, e2, (Sl.single (enc := ptrc) (k := 1) (x := q3) e3 rfl).mono fun _ _ _ => trivial⟩
theorem JP.at45 (h : JP w6 b p vl vs vo log k ps F W β X u) (h15 : β 15 = true) : ∃ g, X 45 = .slice (some ⟨g, 0, none⟩) 1 1 ∧ Sl u (fun _ => True) 4 Ded.occ (.slice (some ⟨g, 0, none⟩) 1 1) [outK log k] := by
  obtain ⟨g, e2, _, e3⟩ := h.f15 h15
  exact ⟨g, e2, (Sl.single (enc := Ded.occ) (k := 4) (x := outK log k) e3 rfl).mono fun _ _ _ => trivial⟩
theorem JP.got1 {v : Value} {q3 : Nat} (hM : PdMid w6 b p q vl vs vo log k ps F W) (h : JP w6 b p vl vs vo log k ps F W β X u) (h9 : β 9 = false) (h8 : β 8 = true) (h5 : β 5 = true) (h37 : X 37 = .pointer (some ⟨q3, 0, none⟩)) (ho : Own u' b 104 1 ptrc v (ps ++ [q3])) (hg : u.grownBy u' vs.ownBlock) (hat : AtOf u vs v) :
    JP w6 b p vl vs vo log k ps F W (fun n => decide (n = 9) || β n) (newX (some 39) v X) u' := by
  have h16 := ff h9 fun e => (h.w16 e).1
  have hsz := h.kk.size
  have hk := Keeps.of_grown hg
  have hnew : ∀ x, v.ownBlock = some x → vs.ownBlock = some x ∨ u.heap.size ≤ x := fun x hx => by
    rcases hat with e | e
    · exact .inl (e ▸ hx)
    · rw [e] at hx; exact .inr (by cases hx; exact Nat.le_refl _)
  refine ⟨h.kk.andThen hk (fun x _ hx => .inr (.inl hx)), ?_, fun e => ?_, fun e => ?_, fun e => (by cases e), fun _ => ?_, fun e => ?_, fun _ => (h.s16 h16).keep hk (fun x hx hy => hM.nso x hy hx), fun e => ?_, h.a16, fun _ e => ?_, h.w8, fun _ => ⟨h8, h5⟩, fun e => ⟨rfl, (h.w16 e).2⟩, h.w19, h.w22, h.p17, h.p18, h.p20, h.p21, h.p5⟩
  · have h19 := ff h16 fun e => (h.w19 e).1
    have h22 := ff h19 fun e => (h.w22 e).1
    have := h.c
    rw [h19, h22] at this
    have := hk.grownTo this (fun e => (hM.ns p e).2 rfl)
    rw [show (decide (19 = 9) || β 19) = false from h19, show (decide (22 = 9) || β 22) = false from h22]
    exact this
  · obtain ⟨q4, F3, W3, a1, a2, a3, a4, a5⟩ := h.f7 (h.w8 h8)
    have e4 : q4 = q3 := by rw [h37] at a1; cases a1; rfl
    subst e4
    refine ⟨q4, F3, W3, a1, a2.keep hk (fun x hx hy => ?_), a3, fun _ => ⟨fun x hx hv => ?_, ho⟩, fun e => ?_⟩
    · rcases a3 x hx with h1 | h1
      · exact (hM.ns x hy).1 h1.1
      · have := (hM.own.lt x hy).2; omega
    · rcases hnew x hv with e | e
      · rcases a3 x hx with h1 | h1
        · exact (hM.ns x e).1 h1.1
        · have := (hM.own.lt x e).2; omega
      · have := a2.lt x hx; omega
    · have e : β 16 = true := e
      rw [h16] at e; cases e
  · obtain ⟨g, a1, a2, a3⟩ := h.f8 h8
    exact ⟨g, a1, a2, hk.grownTo a3 (fun e => by have := (hM.own.lt g e).2; omega)⟩
  · rcases hat with e | e
    · exact .inl e
    · exact .inr fun x hx => by
        have hx : v.ownBlock = some x := hx
        rw [e] at hx; cases hx; exact hsz
  · obtain ⟨g, a1, a2, a3⟩ := h.f15 e
    exact ⟨g, a1, a2, hk.grownTo a3 (fun e => by have := (hM.own.lt g e).2; omega)⟩
  · have e : β 16 = true := e
    rw [h16] at e; cases e
  · have e : β 16 = true := e
    rw [h16] at e; cases e
theorem JP.got2 {v : Value} (hM : PdMid w6 b p q vl vs vo log k ps F W) (h : JP w6 b p vl vs vo log k ps F W β X u) (h16 : β 16 = false) (h9 : β 9 = true) (h15 : β 15 = true) (ho : Own u' b 34 4 Ded.occ v ((List.range k).map (outK log) ++ [outK log k])) (hg : u.grownBy u' vo.ownBlock) (hat : AtOf u vo v) :
    JP w6 b p vl vs vo log k ps F W (fun n => decide (n = 16) || β n) (newX (some 46) v X) u' := by
  have hsz := h.kk.size
  have hk := Keeps.of_grown hg
  have h19 := ff h16 fun e => (h.w19 e).1
  have h22 := ff h19 fun e => (h.w22 e).1
  have hnew : ∀ x, v.ownBlock = some x → vo.ownBlock = some x ∨ u.heap.size ≤ x := fun x hx => by
    rcases hat with e | e
    · exact .inl (e ▸ hx)
    · rw [e] at hx; exact .inr (by cases hx; exact Nat.le_refl _)
  have h39 : ∀ x, (X 39).ownBlock = some x → vo.ownBlock = some x → False := fun x hx hy => by
    rcases h.a9 h9 with e | e
    · exact hM.nso x (e ▸ hx) hy
    · have := e x hx; have := (hM.outs.lt x hy).2; omega
  refine ⟨h.kk.andThen hk (fun x _ hx => .inr (.inr hx)), ?_, fun e => ?_, fun e => ?_, fun e => (by rw [show (decide (9 = 16) || β 9) = β 9 from rfl, h9] at e; cases e), h.a9, fun e => ?_, fun e => (by cases e), fun _ => ho, fun _ => ?_, fun _ _ x hx hy => ?_, h.w8, h.w9, fun _ => ⟨h9, h15⟩, fun e => ⟨rfl, (h.w19 e).2⟩, h.w22, fun e => ⟨(h.p17 e).1, rfl⟩, h.p18, fun e => ⟨(h.p20 e).1, rfl⟩, h.p21, h.p5⟩
  · have := h.c
    rw [h19, h22] at this
    have := hk.grownTo this (fun e => (hM.no p e).2 rfl)
    rw [show (decide (19 = 16) || β 19) = false from h19, show (decide (22 = 16) || β 22) = false from h22]
    exact this
  · obtain ⟨q4, F3, W3, a1, a2, a3, a4, a5⟩ := h.f7 (h.w8 (h.w9 h9).1)
    refine ⟨q4, F3, W3, a1, a2.keep hk (fun x hx hy => ?_), a3, fun e => ⟨(a4 e).1, (a4 e).2.keep hk (fun x hx hy => h39 x hx hy)⟩, fun _ x hx hv => ?_⟩
    · rcases a3 x hx with h1 | h1
      · exact (hM.no x hy).1 h1.1
      · have := (hM.outs.lt x hy).2; omega
    · rcases hnew x hv with e | e
      · rcases a3 x hx with h1 | h1
        · exact (hM.no x e).1 h1.1
        · have := (hM.outs.lt x e).2; omega
      · have := a2.lt x hx; omega
  · obtain ⟨g, a1, a2, a3⟩ := h.f8 (h.w9 h9).1
    exact ⟨g, a1, a2, hk.grownTo a3 (fun e => by have := (hM.outs.lt g e).2; omega)⟩
  · obtain ⟨g, a1, a2, a3⟩ := h.f15 h15
    exact ⟨g, a1, a2, hk.grownTo a3 (fun e => by have := (hM.outs.lt g e).2; omega)⟩
  · rcases hat with e | e
    · exact .inl e
    · exact .inr fun x hx => by
        have hx : v.ownBlock = some x := hx
        rw [e] at hx; cases hx; exact hsz
  · have hy : v.ownBlock = some x := hy
    have hx : (X 39).ownBlock = some x := hx
    rcases hnew x hy with e | e
    · exact h39 x hx e
    · obtain ⟨q4, F3, W3, a1, a2, a3, a4, a5⟩ := h.f7 (h.w8 (h.w9 h9).1)
      have := ((a4 h9).2.lt x hx).2
      omega
theorem JP.load5 (h : JP w6 b p vl vs vo log k ps F W β X u) : JP w6 b p vl vs vo log k ps F W (fun n => decide (n = 5) || β n) (newX (some 35) vs X) u :=
  ⟨h.kk, h.c, h.f7, h.f8, h.s9, h.a9, h.f15, h.s16, h.f16, h.a16, h.so, h.w8, fun e => ⟨(h.w9 e).1, rfl⟩, h.w16, h.w19, h.w22, h.p17, h.p18, h.p20, h.p21, fun _ => rfl⟩
theorem JP.ptr1 (h : JP w6 b p vl vs vo log k ps F W β X u) (h16 : β 16 = true) : JP w6 b p vl vs vo log k ps F W (fun n => decide (n = 17) || β n) (newX (some 47) (.pointer (some ⟨p, 0, none⟩)) X) u :=
  ⟨h.kk, h.c, h.f7, h.f8, h.s9, h.a9, h.f15, h.s16, h.f16, h.a16, h.so, h.w8, h.w9, h.w16, h.w19, h.w22, fun _ => ⟨rfl, h16⟩, fun e => ⟨(h.p18 e).1, rfl⟩, h.p20, h.p21, h.p5⟩
theorem JP.ptr2 (h : JP w6 b p vl vs vo log k ps F W β X u) (h17 : β 17 = true) : JP w6 b p vl vs vo log k ps F W (fun n => decide (n = 18) || β n) (newX (some 48) (.pointer (some ⟨p, 1, none⟩)) X) u :=
  ⟨h.kk, h.c, h.f7, h.f8, h.s9, h.a9, h.f15, h.s16, h.f16, h.a16, h.so, h.w8, h.w9, h.w16, fun e => ⟨(h.w19 e).1, rfl⟩, h.w22, h.p17, fun _ => ⟨rfl, h17⟩, h.p20, h.p21, h.p5⟩
theorem JP.ptr3 (h : JP w6 b p vl vs vo log k ps F W β X u) (h16 : β 16 = true) : JP w6 b p vl vs vo log k ps F W (fun n => decide (n = 20) || β n) (newX (some 49) (.pointer (some ⟨p, 0, none⟩)) X) u :=
  ⟨h.kk, h.c, h.f7, h.f8, h.s9, h.a9, h.f15, h.s16, h.f16, h.a16, h.so, h.w8, h.w9, h.w16, h.w19, h.w22, h.p17, h.p18, fun _ => ⟨rfl, h16⟩, fun e => ⟨(h.p21 e).1, rfl⟩, h.p5⟩
theorem JP.ptr4 (h : JP w6 b p vl vs vo log k ps F W β X u) (h20 : β 20 = true) : JP w6 b p vl vs vo log k ps F W (fun n => decide (n = 21) || β n) (newX (some 50) (.pointer (some ⟨p, 2, none⟩)) X) u :=
  ⟨h.kk, h.c, h.f7, h.f8, h.s9, h.a9, h.f15, h.s16, h.f16, h.a16, h.so, h.w8, h.w9, h.w16, h.w19, fun e => ⟨(h.w22 e).1, rfl⟩, h.p17, h.p18, h.p20, fun _ => ⟨rfl, h20⟩, h.p5⟩
theorem one_cell (u : World) (p n : Nat) (v : Value) : Keeps (fun x => x = p) u (u.setCell ⟨p, n, none⟩ v) := (Keeps.refl (fun x => x = p) u).setCell (p := ⟨p, n, none⟩) (fun _ => rfl) v
/-- Neither row lies in the block of what is played. -/
theorem JP.notp (hM : PdMid w6 b p q vl vs vo log k ps F W) (h : JP w6 b p vl vs vo log k ps F W β X u) (h16 : β 16 = true) : (∀ x, (X 39).ownBlock = some x → x ≠ p) ∧ ∀ x, (X 46).ownBlock = some x → x ≠ p := by
  have hp := hM.plt
  constructor
  · intro x hx
    rcases h.a9 (h.w16 h16).1 with e | e
    · exact (hM.ns x (e ▸ hx)).2
    · have := e x hx; omega
  · intro x hx
    rcases h.a16 h16 with e | e
    · exact (hM.no x (e ▸ hx)).2
    · have := e x hx; omega
theorem JP.put1 (hM : PdMid w6 b p q vl vs vo log k ps F W) (h : JP w6 b p vl vs vo log k ps F W β X u) (h19 : β 19 = false) (h16 : β 16 = true) (h18 : β 18 = true) : JP w6 b p vl vs vo log k ps F W (fun n => decide (n = 19) || β n) X (u.setCell ⟨p, 1, none⟩ (X 39)) := by
  obtain ⟨n1, n2⟩ := h.notp hM h16
  have h22 := ff h19 fun e => (h.w22 e).1
  have h9 := (h.w16 h16).1
  have hk := one_cell u p 1 (X 39)
  have hc := h.c
  have hne : ∀ g, w6.heap.size ≤ g → g ≠ p := fun g hg e => by have := hM.plt; omega
  rw [h19, h22] at hc
  refine ⟨h.kk.andThen hk (fun x _ hx => .inl hx), ?_, fun e => ?_, fun e => ?_, fun e => (by rw [show (decide (9 = 19) || β 9) = β 9 from rfl, h9] at e; cases e), h.a9, fun e => ?_, fun e => (by rw [show (decide (16 = 19) || β 16) = β 16 from rfl, h16] at e; cases e), fun _ => (h.f16 h16).keep hk (fun x hx e => n2 x hx e), h.a16, h.so, h.w8, h.w9, h.w16, fun _ => ⟨h16, h18⟩, fun e => ⟨rfl, (h.w22 e).2⟩, h.p17, h.p18, h.p20, h.p21, h.p5⟩
  · rw [show (decide (22 = 19) || β 22) = false from h22]
    exact setCell_block (o := 1) hc (X 39)
  · obtain ⟨q3, F3, W3, a1, a2, a3, a4, a5⟩ := h.f7 e
    refine ⟨q3, F3, W3, a1, a2.keep hk (fun x hx e => ?_), a3, fun e => ⟨(a4 e).1, (a4 e).2.keep hk (fun x hx e => n1 x hx e)⟩, a5⟩
    rcases a3 x hx with h1 | h1
    · exact hM.np (e ▸ h1.1)
    · exact hne x h1 e
  · obtain ⟨g, a1, a2, a3⟩ := h.f8 e
    exact ⟨g, a1, a2, hk.grownTo a3 (hne g a2)⟩
  · obtain ⟨g, a1, a2, a3⟩ := h.f15 e
    exact ⟨g, a1, a2, hk.grownTo a3 (hne g a2)⟩
theorem JP.put2 (hM : PdMid w6 b p q vl vs vo log k ps F W) (h : JP w6 b p vl vs vo log k ps F W β X u) (h22 : β 22 = false) (h19 : β 19 = true) (h21 : β 21 = true) : JP w6 b p vl vs vo log k ps F W (fun n => decide (n = 22) || β n) X (u.setCell ⟨p, 2, none⟩ (X 46)) := by
  have h16 := (h.w19 h19).1
  obtain ⟨n1, n2⟩ := h.notp hM h16
  have h9 := (h.w16 h16).1
  have hk := one_cell u p 2 (X 46)
  have hc := h.c
  have hne : ∀ g, w6.heap.size ≤ g → g ≠ p := fun g hg e => by have := hM.plt; omega
  rw [h19, h22] at hc
  refine ⟨h.kk.andThen hk (fun x _ hx => .inl hx), ?_, fun e => ?_, fun e => ?_, fun e => (by rw [show (decide (9 = 22) || β 9) = β 9 from rfl, h9] at e; cases e), h.a9, fun e => ?_, fun e => (by rw [show (decide (16 = 22) || β 16) = β 16 from rfl, h16] at e; cases e), fun _ => (h.f16 h16).keep hk (fun x hx e => n2 x hx e), h.a16, h.so, h.w8, h.w9, h.w16, h.w19, fun _ => ⟨h19, h21⟩, h.p17, h.p18, h.p20, h.p21, h.p5⟩
  · rw [show (decide (19 = 22) || β 19) = true from h19]
    exact setCell_block (o := 2) hc (X 46)
  · obtain ⟨q3, F3, W3, a1, a2, a3, a4, a5⟩ := h.f7 e
    refine ⟨q3, F3, W3, a1, a2.keep hk (fun x hx e => ?_), a3, fun e => ⟨(a4 e).1, (a4 e).2.keep hk (fun x hx e => n1 x hx e)⟩, a5⟩
    rcases a3 x hx with h1 | h1
    · exact hM.np (e ▸ h1.1)
    · exact hne x h1 e
  · obtain ⟨g, a1, a2, a3⟩ := h.f8 e
    exact ⟨g, a1, a2, hk.grownTo a3 (hne g a2)⟩
  · obtain ⟨g, a1, a2, a3⟩ := h.f15 e
    exact ⟨g, a1, a2, hk.grownTo a3 (hne g a2)⟩
/-- All is made. -/
theorem JP.done (hM : PdMid w6 b p q vl vs vo log k ps F W) (h : JP w6 b p vl vs vo log k ps F W β X u) (h22 : β 22 = true) : ∃ q3, PdIn u b p q vl (X 39) (X 46) log (k + 1) (ps ++ [q3]) F W := by
  have h19 := (h.w22 h22).1
  have h16 := (h.w19 h19).1
  have h9 := (h.w16 h16).1
  obtain ⟨q3, F3, W3, a1, a2, a3, a4, a5⟩ := h.f7 (h.w8 (h.w9 h9).1)
  have hc := h.c
  rw [h19, h22] at hc
  exact ⟨q3, hM.put h.kk hc (a4 h9).2 (h.f16 h16) (h.a9 h9) (h.a16 h16) (h.so h9 h16) a2 fun x hx => ⟨a3 x hx, (a4 h9).1 x hx, a5 h16 x hx⟩⟩
end
end Go.Proofs.YthdcnknjjbdefaaGreatDoor.His

namespace Go.Proofs.YthdcnknjjbdefaaGreatDoor.His
open Go.RowKit Go.Bl
attribute [local go_sem ↓] Go.wp_at_zero Go.wp_at_succ

theorem own_one (w : World) (b q : Nat) (hb : b ≤ w.heap.size) : Own (w.alloc (.cells #[.pointer (some ⟨q, 0, none⟩)] 104)) b 104 1 ptrc (.slice (some ⟨w.heap.size, 0, none⟩) 1 1) [q] :=
  ⟨rfl, .inr ⟨w.heap.size, 1, _, rfl, hb, heap_alloc_new w _, Nat.le_refl _, by show 1 ≤ maxLen; unfold maxLen; omega, rfl, rfl⟩⟩
theorem below_drew (w : World) : Below w.heap.size w w.drew := ⟨rfl, rfl, rfl, Nat.le_refl _, fun _ _ => rfl⟩
theorem start_pd {w w1 w2 : World} {q q2 : Nat} {W1 W2 : Nat → Prop} {vl : Value} {log : List Ent} (hW : ∀ k, W1 k → w.heap.size ≤ k) (hS : StAt w1 q St.new (fun k => w.heap.size ≤ k ∧ k < w1.heap.size) W1) (hB1 : Below w.heap.size w w1)
    (hB2 : Below w1.heap.size w1 w2) (hS2 : StAt w2 q2 St.new (fun k => ((w.heap.size ≤ k ∧ k < w1.heap.size) ∧ ¬ W1 k) ∨ (w1.heap.size ≤ k ∧ k < w2.heap.size)) W2) :
    PdIn ((w2.alloc (.cells #[.pointer (some ⟨q2, 0, none⟩)] 104)).alloc (.cells #[vl, .slice (some ⟨w2.heap.size, 0, none⟩) 1 1, .slice none 0 0] 109)) w.heap.size (w2.heap.size + 1) q vl (.slice (some ⟨w2.heap.size, 0, none⟩) 1 1) (.slice none 0 0) log 0 [q2] (fun k => w.heap.size ≤ k ∧ k < w1.heap.size) W1 := by
  have h1 := hB1.size
  have h2 := hB2.size
  have hs3 : (w2.alloc (.cells #[.pointer (some ⟨q2, 0, none⟩)] 104)).heap.size = w2.heap.size + 1 := World.size_alloc _ _
  have ha : Below w2.heap.size w2 (w2.alloc (.cells #[.pointer (some ⟨q2, 0, none⟩)] 104)) := (Below.refl _ _).alloc (Nat.le_refl _) _
  have hb : Below (w2.heap.size + 1) (w2.alloc (.cells #[.pointer (some ⟨q2, 0, none⟩)] 104)) ((w2.alloc (.cells #[.pointer (some ⟨q2, 0, none⟩)] 104)).alloc (.cells #[vl, .slice (some ⟨w2.heap.size, 0, none⟩) 1 1, .slice none 0 0] 109)) := (Below.refl _ _).alloc (by omega) _
  have hn := heap_alloc_new (w2.alloc (.cells #[.pointer (some ⟨q2, 0, none⟩)] 104)) (.cells #[vl, .slice (some ⟨w2.heap.size, 0, none⟩) 1 1, .slice none 0 0] 109)
  rw [hs3] at hn
  have hb' : Below (w2.alloc (.cells #[.pointer (some ⟨q2, 0, none⟩)] 104)).heap.size _ _ := hs3 ▸ hb
  refine ⟨hn, by omega, ((hS.fresh hB2).fresh ha).fresh hb', hW, fun h => by omega, (own_one w2 w.heap.size q2 (by omega)).fresh hb', rfl, Own.nil_ _ _ _ _ _, fun x hx => ?_, fun x hx => (by cases hx), fun x _ hx => (by cases hx), fun j q' e => ?_⟩
  · have hx : w2.heap.size = x := Option.some.inj hx
    exact ⟨fun h => by omega, by omega⟩
  · have hj : j = 0 := by
      have := (List.getElem?_eq_some_iff.1 e).1
      simpa using this
    subst hj
    have e : q2 = q' := by simpa using e
    subst e
    refine ⟨_, W2, (hS2.fresh ha).fresh hb', fun x hx => ⟨fun hw => ?_, ?_, fun e => ?_, fun e => (by cases e)⟩⟩
    · rcases hx with hx | hx
      · exact hx.2 hw
      · have := hS.lt x (hS.wf x hw); omega
    · rcases hx with hx | hx <;> omega
    · have e : w2.heap.size = x := Option.some.inj e
      rcases hx with hx | hx <;> omega

set_option maxRecDepth 10000 in
set_option maxHeartbeats 8000000 in
theorem play_any (w : World) (hT : Tabs w) (vl : Value) (log : List Ent) (h : EntsOk w (fun b => b < w.heap.size) vl log) (hok : LogOk log) (hl : log.length ≤ 100) :
    Calls Tryz.prog 39 #[vl] w fun e w' => ∃ p, e = .returned (.pointer (some ⟨p, 0, none⟩)) ∧ PlAt w' p log ∧ Below w.heap.size w w' := by
  obtain ⟨A, c, rfl, hA1, hA2⟩ := h.1.shape
  unfold maxLen at hA2
  have HT := Lib.hid hT
  have HE := Lib.hid h
  have HOK := Lib.hid hok
  obtain ⟨N, hN⟩ : ∃ N, log.length = N := ⟨_, rfl⟩
  rw [hN] at hA1 hl HE ⊢
  have HN := Lib.hid hN
  clear hT h hok hN
  go_enter Tryz.func39, Tryz.ntmps39
  go_wp2_with fail
  refine (snew_any w).mono ?_
  rintro e w1 ⟨q, W1, rfl, hq, hW1, hS1, hB1⟩
  have HW1 := Lib.hid hW1
  have HS1 := Lib.hid hS1
  have HB1 := Lib.hid hB1
  clear hW1 hS1 hB1 hq
  go_wp2_with fail
  refine (sclone_any w1 q St.new _ W1 HS1.out (by simp [St.new]) (by simp [St.new])).mono ?_
  rintro e w2 ⟨q2, W2, rfl, hq2, hW2, hB2, hS2⟩
  have hst := start_pd (vl := .slice A N c) (log := log) HW1.out HS1.out HB1.out hB2 hS2
  have hbl : Below w.heap.size w ((w2.alloc (.cells #[.pointer (some ⟨q2, 0, none⟩)] 104)).alloc (.cells #[.slice A N c, .slice (some ⟨w2.heap.size, 0, none⟩) 1 1, .slice none 0 0] 109)) := by
    have h1 := HB1.out.size
    have h2 := hB2.size
    exact ((HB1.out.trans (hB2.mono h1)).alloc (by omega) _).alloc (by rw [World.size_alloc]; omega) _
  have HST := Lib.hid hst
  have HBL := Lib.hid hbl
  clear hW2 hB2 hS2 hq2 hst hbl
  go_upto_region 3 with (fail)
  obtain ⟨p, hp⟩ : ∃ p, w2.heap.size + 1 = p := ⟨_, rfl⟩
  obtain ⟨vs0, hvs0⟩ : ∃ v, Value.slice (some ⟨w2.heap.size, 0, none⟩) 1 1 = v := ⟨_, rfl⟩
  rw [hp] at HST ⊢
  rw [hvs0] at HST HBL ⊢
  generalize (w2.alloc (.cells #[.pointer (some ⟨q2, 0, none⟩)] 104)).alloc (.cells #[.slice A N c, vs0, .slice none 0 0] 109) = w3 at HST HBL ⊢
  clear hvs0 hp
  go_wp2_with fail
  go_loopw [18] (fun i wr => ∃ (k : Nat) (vs vo : Value) (ps : List Nat) (F W : Nat → Prop), k ≤ N ∧ i = .int .i64 k ∧ PdIn wr w.heap.size p q (.slice A N c) vs vo log k ps F W ∧ Below w.heap.size w wr) (fun i _ => N - (RowKit.intOf i).toNat)
  case atStart => exact ⟨0, _, _, _, _, _, Nat.zero_le _, rfl, HST.out, HBL.out⟩
  case round =>
    obtain ⟨k, vs, vo, ps, F, W, hk, rfl, hP, hB⟩ := hrel
    have HP := Lib.hid hP
    have HB := Lib.hid hB
    clear hP hB
    by_cases hlt : k < N
    · have hkl : k < log.length := by rw [HN.out]; exact hlt
      have hent := HE.out.fresh HB.out
      obtain ⟨b0, o0, rfl, hb0, _, hxx⟩ := hent.1.cell_ hkl
      have hae := hent.2 log[k] (List.getElem_mem hkl)
      have hz := HOK.out k hkl
      obtain ⟨hr, hpos⟩ := apply_zero hz
      have hlen := (right_nums hr).2.2.2.2.2
      have hLn := (HOK.out.len k (by omega))
      have hap := HOK.out.ap k (by omega)
      have hoc := outK_at hkl
      have hcall := fun (wz : World) (hBz : Below wr.heap.size wr wz) => apply_any wz (HT.out.fresh (HB.out.trans (hBz.mono HB.out.size))) q (stK log k) F W (HP.out.st.fresh hBz) (fun b => b < w.heap.size) log[k]
        ⟨hae.1.fresh hBz, hae.2.1, hae.2.2.1, by omega⟩ (fun x hx hw => by have := HP.out.low x hw; omega) (by omega) (by omega) (by omega)
      rw [hz, ← hoc] at hcall
      have htake := fun (w5 w6 : World) (hA : Applied w5 w6 q (applyS (stK log k) log[k]).1 F W) (hB : Below wr.heap.size wr w5) => (HP.out.fresh hB).take hkl hA (Nat.le_trans HB.out.size hB.size)
      obtain ⟨EA, Ec, hev, _, _⟩ := hae.1.shape
      obtain ⟨EN, hEN⟩ : ∃ n, log[k].evs.length = n := ⟨_, rfl⟩
      obtain ⟨a, ha⟩ : ∃ a, log[k] = a := ⟨_, rfl⟩
      rw [hEN] at hev
      rw [ha] at hxx hcall htake hev
      rw [hev] at hcall
      obtain ⟨s', hs'⟩ : ∃ s', (applyS (stK log k) a).1 = s' := ⟨_, rfl⟩
      rw [hs'] at hcall htake
      have y0 := hxx 0 _ rfl
      have y1 := hxx 1 _ rfl
      have y2 := hxx 2 _ rfl
      have y3 := hxx 3 _ rfl
      have y4 := hxx 4 _ rfl
      have y5 := hxx 5 _ rfl
      have y6 := hxx 6 _ rfl
      rw [hev] at y6
      simp only [Nat.add_zero] at y0
      obtain ⟨oc, hoe⟩ : ∃ oc, outK log k = oc := ⟨_, rfl⟩
      rw [hoe] at hcall
      have HOE := Lib.hid hoe
      obtain ⟨r1, r2, r3, r4⟩ := oc
      have HC := Lib.hid hcall
      have HTK := Lib.hid htake
      have hk0 : (0 : Int) ≤ (k : Int) := by omega
      have hk1 : (k : Int) < (N : Int) := by omega
      have hBe := (Below.refl wr.heap.size wr).alloc (Nat.le_refl _) (.cells #[.int .i64 a.pos, .int .i64 a.epoch, .string a.stream, .int .i64 a.expect, .int .i64 a.session, .int .i64 a.seq, .slice EA EN Ec] 55)
      have HBE := Lib.hid hBe
      clear hev hEN hxx hae hent hz hr hpos hlen hLn hap hoc hcall htake ha hs' hoe hBe hb0
      go_wp2_with fail
      refine (HC.out _ HBE.out).mono ?_
      rintro e w5 ⟨rfl, hA⟩
      obtain ⟨F2, W2, hM⟩ := HTK.out _ _ hA HBE.out
      have hA2 : Below w.heap.size w w5 := by
        obtain ⟨_, _, _, hK⟩ := hA
        exact Go.Bl.Below.keep (HB.out.trans (HBE.out.mono HB.out.size)) hK (Nat.le_trans HB.out.size HBE.out.size) (fun x hx => HP.out.low x hx)
      have HM := Lib.hid hM
      have HB5 := Lib.hid hA2
      clear hA hA2 hM y0 y1 y2 y3 y4 y5 y6
      have hBo := (Below.refl w5.heap.size w5).alloc (Nat.le_refl _) (.cells #[.int .i64 r1, .int .i64 r2, .int .i64 r3, .int .i64 r4] 34)
      have hg6 := heap_alloc_new w5 (.cells #[.int .i64 r1, .int .i64 r2, .int .i64 r3, .int .i64 r4] 34)
      have hM6 := HM.out.fresh hBo
      have hB6 := HB5.out.trans (hBo.mono HB5.out.size)
      have hn6 : ∀ x, (x = p ∨ vs.ownBlock = some x ∨ vo.ownBlock = some x) → x ≠ w5.heap.size := fun x hx e => by
        subst e
        rcases hx with hx | hx | hx
        · have := HM.out.plt; omega
        · have := (HM.out.own.lt _ hx).2; omega
        · have := (HM.out.outs.lt _ hx).2; omega
      obtain ⟨vl, hvl⟩ : ∃ v, Value.slice (some ⟨b0, o0, none⟩) N c = v := ⟨_, rfl⟩
      rw [hvl] at hM6
      have HVL := Lib.hid hvl
      clear hvl
      have hpl := HM.out.len
      have hsh1 := hM6.own.shape_ (n := k + 1) hpl
      have hsh2 := hM6.outs.shape_ (n := k) (by simp)
      obtain ⟨B1, c1, rfl, a1, _⟩ := hsh1
      obtain ⟨B2, c2, rfl, a2, _⟩ := hsh2
      go_upto_region 9 with (fail)
      obtain ⟨g6, hg6e⟩ : ∃ g, w5.heap.size = g := ⟨_, rfl⟩
      rw [hg6e] at hg6 hn6 ⊢
      generalize w5.alloc (.cells #[.int .i64 r1, .int .i64 r2, .int .i64 r3, .int .i64 r4] 34) = w6 at hg6 hM6 hB6 ⊢
      have HM6 := Lib.hid hM6
      have HB6 := Lib.hid hB6
      have HG6 := Lib.hid hg6
      have HN6 := Lib.hid hn6
      have hg6l : g6 < w6.heap.size := (Array.getElem?_eq_some_iff.1 hg6).1
      have held : ∀ β X u, JP w6 w.heap.size p vl (.slice B1 (k + 1) c1) (.slice B2 k c2) log k ps F2 W2 β X u → β 22 = false → (u.cell? ⟨p, 2, none⟩ = some (.slice B2 k c2) ∧ u.cell? ⟨g6, 0, none⟩ = some (.int .i64 r1) ∧ u.cell? ⟨g6, 1, none⟩ = some (.int .i64 r2) ∧ u.cell? ⟨g6, 2, none⟩ = some (.int .i64 r3) ∧ u.cell? ⟨g6, 3, none⟩ = some (.int .i64 r4)) := fun β X u hJ h22 => by
        have hc := hJ.c
        rw [h22] at hc
        have hk := hJ.kk.grownTo HG6.out (fun e => HN6.out g6 e rfl)
        exact ⟨cell_of_row u p 2 _ _ _ hc, cell_of_row u g6 0 _ _ _ hk, cell_of_row u g6 1 _ _ _ hk, cell_of_row u g6 2 _ _ _ hk, cell_of_row u g6 3 _ _ _ hk⟩
      have s2 := cell_of_row w6 p 2 _ _ _ hM6.blk
      have s3 := cell_of_row w6 g6 0 _ _ _ hg6
      have s4 := cell_of_row w6 g6 1 _ _ _ hg6
      have s5 := cell_of_row w6 g6 2 _ _ _ hg6
      have s6 := cell_of_row w6 g6 3 _ _ _ hg6
      have hL6 : (stK log (k + 1)).L.length ≤ 1000000 ∧ (stK log (k + 1)).T.length ≤ 1000000 := by
        have := HOK.out.len (k + 1) hkl; omega
      clear hg6 hM6 hB6 hn6 hg6e hpl hBo
      refine wp_region_noPanic ?_
      refine region_kept 22 [0, 1, 2, 3, 4, 6, 10, 11, 12, 13, 14] [5, 7, 8, 9, 15, 16, 17, 18, 19, 20, 21, 22] [35, 37, 38, 39, 45, 46, 47, 48, 49, 50]
        (fun z => z.cell? ⟨p, 2, none⟩ = some (.slice B2 k c2) ∧ z.cell? ⟨g6, 0, none⟩ = some (.int .i64 r1) ∧ z.cell? ⟨g6, 1, none⟩ = some (.int .i64 r2) ∧ z.cell? ⟨g6, 2, none⟩ = some (.int .i64 r3) ∧ z.cell? ⟨g6, 3, none⟩ = some (.int .i64 r4))
        (JP w6 w.heap.size p vl (.slice B1 (k + 1) c1) (.slice B2 k c2) log k ps F2 W2) (by kernel_rfl) (by kernel_rfl) (by kernel_rfl) (by decide) (by kernel_rfl) (fun _ _ _ _ h => h) ⟨s2, s3, s4, s5, s6⟩
        ⟨.pointer (some ⟨p, 0, none⟩), .inl ⟨rfl, fun z hz => by (obtain ⟨z2, z3, z4, z5, z6⟩ := hz; simp only [List.getElem?_toArray, List.getElem?_cons_zero, Option.getD_some]; go_simp)⟩,
          .pointer (some ⟨p, 0, none⟩), .inl ⟨rfl, fun z hz => by (obtain ⟨z2, z3, z4, z5, z6⟩ := hz; simp only [List.getElem?_toArray, List.getElem?_cons_succ, List.getElem?_cons_zero, Option.getD_some]; go_simp)⟩,
          .pointer (some ⟨p, 0, none⟩), .inl ⟨rfl, fun z hz => by (obtain ⟨z2, z3, z4, z5, z6⟩ := hz; simp only [List.getElem?_toArray, List.getElem?_cons_succ, List.getElem?_cons_zero, Option.getD_some]; go_simp)⟩,
          .pointer (some ⟨p, 0, none⟩), .inl ⟨rfl, fun z hz => by (obtain ⟨z2, z3, z4, z5, z6⟩ := hz; simp only [List.getElem?_toArray, List.getElem?_cons_succ, List.getElem?_cons_zero, Option.getD_some]; go_simp)⟩,
          .pointer (some ⟨p, 1, none⟩), .inl ⟨rfl, fun z hz => by (obtain ⟨z2, z3, z4, z5, z6⟩ := hz; simp only [List.getElem?_toArray, List.getElem?_cons_succ, List.getElem?_cons_zero, Option.getD_some]; go_simp)⟩,
          .pointer (some ⟨q, 0, none⟩), .inl ⟨rfl, fun z hz => by (obtain ⟨z2, z3, z4, z5, z6⟩ := hz; simp only [List.getElem?_toArray, List.getElem?_cons_succ, List.getElem?_cons_zero, Option.getD_some]; go_simp)⟩,
          .pointer (some ⟨p, 0, none⟩), .inl ⟨rfl, fun z hz => by (obtain ⟨z2, z3, z4, z5, z6⟩ := hz; simp only [List.getElem?_toArray, List.getElem?_cons_succ, List.getElem?_cons_zero, Option.getD_some]; go_simp)⟩,
          .pointer (some ⟨p, 0, none⟩), .inl ⟨rfl, fun z hz => by (obtain ⟨z2, z3, z4, z5, z6⟩ := hz; simp only [List.getElem?_toArray, List.getElem?_cons_succ, List.getElem?_cons_zero, Option.getD_some]; go_simp)⟩,
          .pointer (some ⟨p, 2, none⟩), .inl ⟨rfl, fun z hz => by (obtain ⟨z2, z3, z4, z5, z6⟩ := hz; simp only [List.getElem?_toArray, List.getElem?_cons_succ, List.getElem?_cons_zero, Option.getD_some]; go_simp)⟩,
          .slice B2 k c2, .inl ⟨rfl, fun z hz => by (obtain ⟨z2, z3, z4, z5, z6⟩ := hz; simp only [List.getElem?_toArray, List.getElem?_cons_succ, List.getElem?_cons_zero, Option.getD_some]; go_simp)⟩,
          .agg #[.int .i64 r1, .int .i64 r2, .int .i64 r3, .int .i64 r4], .inl ⟨rfl, fun z hz => by (obtain ⟨z2, z3, z4, z5, z6⟩ := hz; simp only [List.getElem?_toArray, List.getElem?_cons_succ, List.getElem?_cons_zero, Option.getD_some]; go_simp)⟩,
          rfl⟩ ?_ ?_ ?_
      · intro β X hβ
        have b := fun i (hi : i ∈ [5, 7, 8, 9, 15, 16, 17, 18, 19, 20, 21, 22]) => hβ i hi
        have hM := HM6.out.fresh (below_drew w6)
        refine ⟨(Keeps.refl _ w6).drew, ?_, ?_, ?_, fun _ => hM.own, ?_, ?_, fun _ => hM.outs, ?_, ?_, ?_, ?_, ?_, ?_, ?_, ?_, ?_, ?_, ?_, ?_, ?_⟩
        · rw [b 19 (by decide), b 22 (by decide)]
          exact hM.blk
        · rw [b 7 (by decide)]; intro h; cases h
        · rw [b 8 (by decide)]; intro h; cases h
        · rw [b 9 (by decide)]; intro h; cases h
        · rw [b 15 (by decide)]; intro h; cases h
        · rw [b 16 (by decide)]; intro h; cases h
        · rw [b 16 (by decide)]; intro h; cases h
        · rw [b 9 (by decide)]; intro h; cases h
        · rw [b 8 (by decide)]; intro h; cases h
        · rw [b 9 (by decide)]; intro h; cases h
        · rw [b 16 (by decide)]; intro h; cases h
        · rw [b 19 (by decide)]; intro h; cases h
        · rw [b 22 (by decide)]; intro h; cases h
        · rw [b 17 (by decide)]; intro h; cases h
        · rw [b 18 (by decide)]; intro h; cases h
        · rw [b 20 (by decide)]; intro h; cases h
        · rw [b 21 (by decide)]; intro h; cases h
        · rw [b 5 (by decide)]; intro h; cases h
      · intro i hi β X u hJ hb hdep b ho hx K hK
        have hM := HM6.out
        simp only [List.mem_cons, List.not_mem_nil, or_false] at hi
        rcases hi with rfl | rfl | rfl | rfl | rfl | rfl | rfl | rfl | rfl | rfl | rfl | rfl
        · have h9 := ff hb fun e => (hJ.w9 e).2
          have h16 := ff h9 fun e => (hJ.w16 e).1
          have h19 := ff h16 fun e => (hJ.w19 e).1
          have h22 := ff h19 fun e => (hJ.w22 e).1
          have hc := hJ.c
          rw [h19, h22] at hc
          have z1 : u.cell? ⟨p, 1, none⟩ = some (.slice B1 (k + 1) c1) := cell_of_row u p 1 _ _ _ hc
          have e1 : b.eval (.tmp 34) = .pointer (some ⟨p, 1, none⟩) := by rw [ho 34 (by decide)]; go_simp
          have hK1 := hK _ u (fun _ => held _ _ _ hJ.load5 h22) hJ.load5
          refine wpOp_of rfl ?_
          have e1' : (b.tmps[34]?).getD undef = .pointer (some ⟨p, 1, none⟩) := by rw [← Array.getD_eq_getD_getElem?]; exact e1
          clear ho hx hJ hK hdep e1 hc
          go_simp
          exact hK1
        · have h8 := ff hb hJ.w8
          have h9 := ff h8 fun e => (hJ.w9 e).1
          have h16 := ff h9 fun e => (hJ.w16 e).1
          have h19 := ff h16 fun e => (hJ.w19 e).1
          have h22 := ff h19 fun e => (hJ.w22 e).1
          have e1 : b.eval (.tmp 36) = .pointer (some ⟨q, 0, none⟩) := by rw [ho 36 (by decide)]; go_simp
          have hSu : StAt u q (stK log (k + 1)) F2 W2 := hM.st.keep hJ.kk (fun x hx hg => by
            rcases hg with hg | hg | hg
            · exact hM.np (hg ▸ hx)
            · exact (hM.ns x hg).1 hx
            · exact (hM.no x hg).1 hx)
          refine wpOp_callx 51 36 104 (.pointer (some ⟨q, 0, none⟩)) rfl rfl rfl e1 (by kernel_rfl) ?_
          refine (sclone_any u q _ F2 W2 hSu hL6.1 hL6.2).mono ?_
          rintro e u' ⟨q3, W3, rfl, _, _, hB3, hS3⟩
          have hJ' := hJ.come hM hb hB3 hS3 (fun x hx => by
            rcases hx with h | h
            · exact .inl h
            · exact .inr h.1)
          exact ⟨_, rfl, hK _ _ (fun _ => held _ _ _ hJ' h22) hJ'⟩
        · have h9 := ff hb fun e => (hJ.w9 e).1
          have h16 := ff h9 fun e => (hJ.w16 e).1
          have h19 := ff h16 fun e => (hJ.w19 e).1
          have h22 := ff h19 fun e => (hJ.w22 e).1
          have h7 : β 7 = true := edge_came rfl hdep 7 (by kernel_rfl)
          obtain ⟨q3, _, _, h37, _⟩ := hJ.f7 h7
          have e1 : b.eval (.tmp 37) = .pointer (some ⟨q3, 0, none⟩) := (hx 37 (by decide) (by simp [Act.put])).trans h37
          have hJ' := hJ.lay1 hM h7
          rw [h37] at hJ'
          exact wpOp_layS 37 q3 rfl rfl rfl e1 (hK _ _ (fun _ => held _ _ _ hJ' h22) hJ')
        · have h16 := ff hb fun e => (hJ.w16 e).1
          have h19 := ff h16 fun e => (hJ.w19 e).1
          have h22 := ff h19 fun e => (hJ.w22 e).1
          have h8 : β 8 = true := edge_came rfl hdep 8 (by kernel_rfl)
          obtain ⟨q3, g, h37, h38, hSl⟩ := hJ.at38 h8
          have h5 : β 5 = true := edge_came rfl hdep 5 (by kernel_rfl)
          have e1 : b.eval (.tmp 35) = .slice B1 (k + 1) c1 := (hx 35 (by decide) (by simp [Act.put])).trans (hJ.p5 h5)
          have e2 : b.eval (.tmp 38) = .slice (some ⟨g, 0, none⟩) 1 1 := (hx 38 (by decide) (by simp [Act.put])).trans h38
          have hpl := hM.len
          refine wpOp_of rfl (elPs.step u rfl (.tmp 35) (.tmp 38) rfl w.heap.size _ _ e1 (hJ.s9 hb) _ _ [q3] e2 hSl (by rw [List.length_singleton]; omega) (Nat.le_trans HB6.out.size hJ.kk.size) fun v' u' h1 h2 h3 => ?_)
          have hJ' := hJ.got1 hM hb h8 h5 h37 h1 h2 h3
          exact hK _ _ (fun _ => held _ _ _ hJ' h22) hJ'
        · have h16 := ff hb fun e => (hJ.w16 e).2
          have h19 := ff h16 fun e => (hJ.w19 e).1
          have h22 := ff h19 fun e => (hJ.w22 e).1
          have e1 : b.eval (.tmp 44) = .agg #[.int .i64 r1, .int .i64 r2, .int .i64 r3, .int .i64 r4] := by rw [ho 44 (by decide)]; go_simp
          have hJ' := hJ.lay2 hM
          rw [HOE.out] at hJ'
          exact wpOp_layO 44 r1 r2 r3 r4 rfl rfl rfl e1 (hK _ _ (fun _ => held _ _ _ hJ' h22) hJ')
        · have h19 := ff hb fun e => (hJ.w19 e).1
          have h22 := ff h19 fun e => (hJ.w22 e).1
          have h9 : β 9 = true := edge_came rfl hdep 9 (by kernel_rfl)
          have h15 : β 15 = true := edge_came rfl hdep 15 (by kernel_rfl)
          obtain ⟨g, h45, hSl⟩ := hJ.at45 h15
          have e1 : b.eval (.tmp 43) = .slice B2 k c2 := by rw [ho 43 (by decide)]; go_simp
          have e2 : b.eval (.tmp 45) = .slice (some ⟨g, 0, none⟩) 1 1 := (hx 45 (by decide) (by simp [Act.put])).trans h45
          refine wpOp_of rfl (elOcs.step u rfl (.tmp 43) (.tmp 45) rfl w.heap.size _ _ e1 (hJ.s16 hb) _ _ [outK log k] e2 hSl (by rw [List.length_singleton, List.length_map, List.length_range]; omega) (Nat.le_trans HB6.out.size hJ.kk.size) fun v' u' h1 h2 h3 => ?_)
          have hJ' := hJ.got2 hM hb h9 h15 h1 h2 h3
          exact hK _ _ (fun _ => held _ _ _ hJ' h22) hJ'
        · have h16 : β 16 = true := edge_came rfl hdep 16 (by kernel_rfl)
          have h18 := ff hb fun e => (hJ.p18 e).2
          have h19 := ff h18 fun e => (hJ.w19 e).2
          have h22 := ff h19 fun e => (hJ.w22 e).1
          have e1 : b.eval (.tmp 30) = .pointer (some ⟨p, 0, none⟩) := by rw [ho 30 (by decide)]; go_simp
          have hK1 := hK (.pointer (some ⟨p, 0, none⟩)) u (fun _ => held _ _ _ (hJ.ptr1 h16) h22) (hJ.ptr1 h16)
          refine wpOp_of rfl ?_
          have e1' : (b.tmps[30]?).getD undef = .pointer (some ⟨p, 0, none⟩) := by rw [← Array.getD_eq_getD_getElem?]; exact e1
          clear ho hx hJ hK hdep e1
          go_simp
          exact hK1
        · have h17 : β 17 = true := edge_came rfl hdep 17 (by kernel_rfl)
          have h19 := ff hb fun e => (hJ.w19 e).2
          have h22 := ff h19 fun e => (hJ.w22 e).1
          have e1 : b.eval (.tmp 47) = .pointer (some ⟨p, 0, none⟩) := (hx 47 (by decide) (by simp [Act.put])).trans (hJ.p17 h17).1
          have hK1 := hK (.pointer (some ⟨p, 1, none⟩)) u (fun _ => held _ _ _ (hJ.ptr2 h17) h22) (hJ.ptr2 h17)
          refine wpOp_of rfl ?_
          have e1' : (b.tmps[47]?).getD undef = .pointer (some ⟨p, 0, none⟩) := by rw [← Array.getD_eq_getD_getElem?]; exact e1
          clear ho hx hJ hK hdep e1
          go_simp
          exact hK1
        · have h18 : β 18 = true := edge_came rfl hdep 18 (by kernel_rfl)
          have h22 := ff hb fun e => (hJ.w22 e).1
          have h16 := (hJ.p17 (hJ.p18 h18).2).2
          have h9 := (hJ.w16 h16).1
          have e1 : b.eval (.tmp 48) = .pointer (some ⟨p, 1, none⟩) := (hx 48 (by decide) (by simp [Act.put])).trans (hJ.p18 h18).1
          obtain ⟨q3, F3, W3, _, _, _, h39, _⟩ := hJ.f7 (hJ.w8 (hJ.w9 h9).1)
          obtain ⟨Z, zc, hz, _, _⟩ := (h39 h9).2.shape_ (n := k + 2) (by rw [List.length_append, hM.len, List.length_singleton])
          have e2 : b.eval (.tmp 39) = .slice Z (k + 2) zc := (hx 39 (by decide) (by simp [Act.put])).trans hz
          have hc := hJ.c
          have z1 := cell_of_row u p 1 _ _ _ hc
          have z2 := frozen_block hc 1
          have hK1 := hK undef (u.setCell ⟨p, 1, none⟩ (X 39)) (fun _ => held _ _ _ (hJ.put1 hM hb h16 h18) h22) (hJ.put1 hM hb h16 h18)
          rw [hz] at hK1
          refine wpOp_of rfl ?_
          have e1' : (b.tmps[48]?).getD undef = .pointer (some ⟨p, 1, none⟩) := by rw [← Array.getD_eq_getD_getElem?]; exact e1
          have e2' : (b.tmps[39]?).getD undef = .slice Z (k + 2) zc := by rw [← Array.getD_eq_getD_getElem?]; exact e2
          clear ho hx hJ hK hdep hz hc e1 e2 h39
          go_simp
          exact hK1
        · have h16 : β 16 = true := edge_came rfl hdep 16 (by kernel_rfl)
          have h21 := ff hb fun e => (hJ.p21 e).2
          have h22 := ff h21 fun e => (hJ.w22 e).2
          have e1 : b.eval (.tmp 31) = .pointer (some ⟨p, 0, none⟩) := by rw [ho 31 (by decide)]; go_simp
          have hK1 := hK (.pointer (some ⟨p, 0, none⟩)) u (fun _ => held _ _ _ (hJ.ptr3 h16) h22) (hJ.ptr3 h16)
          refine wpOp_of rfl ?_
          have e1' : (b.tmps[31]?).getD undef = .pointer (some ⟨p, 0, none⟩) := by rw [← Array.getD_eq_getD_getElem?]; exact e1
          clear ho hx hJ hK hdep e1
          go_simp
          exact hK1
        · have h20 : β 20 = true := edge_came rfl hdep 20 (by kernel_rfl)
          have h22 := ff hb fun e => (hJ.w22 e).2
          have e1 : b.eval (.tmp 49) = .pointer (some ⟨p, 0, none⟩) := (hx 49 (by decide) (by simp [Act.put])).trans (hJ.p20 h20).1
          have hK1 := hK (.pointer (some ⟨p, 2, none⟩)) u (fun _ => held _ _ _ (hJ.ptr4 h20) h22) (hJ.ptr4 h20)
          refine wpOp_of rfl ?_
          have e1' : (b.tmps[49]?).getD undef = .pointer (some ⟨p, 0, none⟩) := by rw [← Array.getD_eq_getD_getElem?]; exact e1
          clear ho hx hJ hK hdep e1
          go_simp
          exact hK1
        · have h19 : β 19 = true := edge_came rfl hdep 19 (by kernel_rfl)
          have h21 : β 21 = true := edge_came rfl hdep 21 (by kernel_rfl)
          have h16 := (hJ.w19 h19).1
          have e1 : b.eval (.tmp 50) = .pointer (some ⟨p, 2, none⟩) := (hx 50 (by decide) (by simp [Act.put])).trans (hJ.p21 h21).1
          obtain ⟨Z, zc, hz, _, _⟩ := (hJ.f16 h16).shape_ (n := k + 1) (by simp)
          have e2 : b.eval (.tmp 46) = .slice Z (k + 1) zc := (hx 46 (by decide) (by simp [Act.put])).trans hz
          have hc := hJ.c
          have z1 := cell_of_row u p 2 _ _ _ hc
          have z2 := frozen_block hc 2
          have hK1 := hK undef (u.setCell ⟨p, 2, none⟩ (X 46)) (fun h => absurd h (by omega)) (hJ.put2 hM hb h19 h21)
          rw [hz] at hK1
          refine wpOp_of rfl ?_
          have e1' : (b.tmps[50]?).getD undef = .pointer (some ⟨p, 2, none⟩) := by rw [← Array.getD_eq_getD_getElem?]; exact e1
          have e2' : (b.tmps[46]?).getD undef = .slice Z (k + 1) zc := by rw [← Array.getD_eq_getD_getElem?]; exact e2
          clear ho hx hJ hK hdep hz hc e1 e2
          go_simp
          exact hK1
      · intro β X u hJ hall
        obtain ⟨q3, hP'⟩ := hJ.done HM6.out (hall 22 (by decide))
        rw [← HVL.out] at hP'
        have hBu : Below w.heap.size w u := Go.Bl.Below.keep HB6.out hJ.kk HB6.out.size (fun x hx => by
          rcases hx with hx | hx | hx
          · rw [hx]; exact HM6.out.bp
          · exact (HM6.out.own.lt x hx).1
          · exact (HM6.out.outs.lt x hx).1)
        have HP' := Lib.hid hP'
        have HBu := Lib.hid hBu
        clear hP' hBu hJ hall held s2 s3 s4 s5 s6
        refine NoPanic.normal ?_
        generalize X 35 = x35
        generalize X 37 = x37
        generalize X 38 = x38
        generalize X 39 = x39 at HP' ⊢
        generalize X 45 = x45
        generalize X 46 = x46 at HP' ⊢
        generalize X 47 = x47
        generalize X 48 = x48
        generalize X 49 = x49
        generalize X 50 = x50
        simp only [putsL, List.getElem?_toArray, List.getElem?_cons_succ, List.getElem?_cons_zero, Option.getD_some, Act.put, List.setIfInBounds_toArray, List.set_cons_succ, List.set_cons_zero]
        go_wp2_with fail
        go_roundw
        case rel => exact ⟨k + 1, _, _, _, _, _, by omega, by go_num, HP'.out, HBu.out⟩
        case measure => simp [RowKit.intOf]; omega
    · have hkn : k = N := by omega
      subst hkn
      have d0 : decide ((k : Int) < (k : Int)) = false := by simp
      go_wp2_with fail
      go_ret
      have hP := HP.out
      rw [← HN.out] at hP
      have hE := HE.out.1.fresh HB.out
      rw [← HN.out] at hE
      exact ⟨p, rfl, hP.out (hE.mono fun _ _ _ => trivial), HB.out⟩
end Go.Proofs.YthdcnknjjbdefaaGreatDoor.His
