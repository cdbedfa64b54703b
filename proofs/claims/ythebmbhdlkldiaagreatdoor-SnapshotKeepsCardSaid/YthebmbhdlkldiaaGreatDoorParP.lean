/- The parts of a state in plain words: are they right; the state that is made of them; the parts of a state. No condition. -/
import Derived.Test.YthebmbhdlkldiaaGreatDoorIdxH
import Derived.Test.YthebmbhdlkldiaaGreatDoorStaP
import Derived.Test.YthebmbhdlkldiaaGreatDoorIdxS
/- The versions of all streams make the number of all events: plain. No condition. -/
namespace Go.Proofs.YthebmbhdlkldiaaGreatDoor.Idx
open Go.RowKit Go.Bl

theorem bLt_irrefl_ (a : ByteArray) : ¬ bLt a a := by rw [bLt_iff]; exact List.lt_irrefl _
def sumS (L : List One) (ks : List ByteArray) : Nat := (ks.map fun s => (ofS L s).length).sum
theorem sumS_snoc (L : List One) (ks : List ByteArray) (s : ByteArray) : sumS L (ks ++ [s]) = sumS L ks + (ofS L s).length := by
  simp only [sumS, List.map_append, List.map_cons, List.map_nil, List.sum_append, List.sum_cons, List.sum_nil]
  omega
theorem sumS_take (L : List One) (ks : List ByteArray) {j : Nat} (hj : j < ks.length) : sumS L (ks.take (j + 1)) = sumS L (ks.take j) + (ofS L ks[j]).length := by
  rw [List.take_succ_eq_append_getElem hj, sumS_snoc]
theorem sumS_le (L : List One) (ks : List ByteArray) (j : Nat) : sumS L (ks.take j) ≤ sumS L ks := by
  have : sumS L ks = sumS L (ks.take j) + sumS L (ks.drop j) := by
    conv => lhs; rw [← List.take_append_drop j ks]
    simp only [sumS, List.map_append, List.sum_append]
  omega
theorem ofS_nil (s : ByteArray) : ofS [] s = [] := rfl
theorem ofS_cons (o : One) (L : List One) (s : ByteArray) : (ofS (o :: L) s).length = (if o.stream = s then 1 else 0) + (ofS L s).length := by
  by_cases h : o.stream = s <;> simp [ofS, h]
  omega
theorem sumS_cons_not (o : One) (L : List One) : ∀ ks : List ByteArray, (∀ s ∈ ks, o.stream ≠ s) → sumS (o :: L) ks = sumS L ks
  | [], _ => rfl
  | s :: ks, h => by
    have ih := sumS_cons_not o L ks (fun t ht => h t (List.mem_cons_of_mem _ ht))
    simp only [sumS, List.map_cons, List.sum_cons] at ih ⊢
    rw [ih, ofS_cons, if_neg (h s (by simp)), Nat.zero_add]
theorem sumS_cons (o : One) (L : List One) : ∀ ks : List ByteArray, ks.Nodup → o.stream ∈ ks → sumS (o :: L) ks = 1 + sumS L ks
  | [], _, h => by cases h
  | s :: ks, hn, h => by
    rw [List.nodup_cons] at hn
    by_cases e : o.stream = s
    · have h1 := sumS_cons_not o L ks (fun t ht he => hn.1 (by rw [← e, he]; exact ht))
      simp only [sumS, List.map_cons, List.sum_cons] at h1 ⊢
      rw [h1, ofS_cons, if_pos e]
      omega
    · have h2 : o.stream ∈ ks := by
        cases h with
        | head => exact absurd rfl e
        | tail _ h => exact h
      have ih := sumS_cons o L ks hn.2 h2
      simp only [sumS, List.map_cons, List.sum_cons] at ih ⊢
      rw [ih, ofS_cons, if_neg e]
      omega
theorem sumS_nil : ∀ ks : List ByteArray, sumS [] ks = 0
  | [] => rfl
  | s :: ks => by
    have ih := sumS_nil ks
    simp only [sumS, List.map_cons, List.sum_cons, ofS_nil, List.length_nil] at ih ⊢
    omega
theorem sumS_all (ks : List ByteArray) (hn : ks.Nodup) : ∀ L : List One, (∀ o ∈ L, o.stream ∈ ks) → sumS L ks = L.length
  | [], _ => sumS_nil ks
  | o :: L, h => by
    rw [sumS_cons o L ks hn (h o (by simp)), sumS_all ks hn L (fun x hx => h x (List.mem_cons_of_mem _ hx)), List.length_cons]
    omega
theorem streams_sum {L : List One} {ks : List ByteArray} (h : Streams L ks) : sumS L ks = L.length := by
  refine sumS_all ks (h.1.imp fun {a b} hab e => by subst e; exact bLt_irrefl_ _ hab) L fun o ho => ?_
  rw [h.2]
  intro hc
  unfold ofS at hc
  rw [List.map_eq_nil_iff, List.filter_eq_nil_iff] at hc
  exact hc o ho (by simp)
theorem streams_size {L : List One} {ks : List ByteArray} (h : Streams L ks) {n : Nat} (hs : ∀ o ∈ L, o.stream.size ≤ n) : ∀ s ∈ ks, s.size ≤ n := by
  intro s hk
  have hc := (h.2 s).1 hk
  apply Decidable.byContradiction
  intro hn
  apply hc
  unfold ofS
  rw [List.map_eq_nil_iff, List.filter_eq_nil_iff]
  intro o ho he
  simp only [decide_eq_true_eq] at he
  exact hn (he ▸ hs o ho)
theorem streams_len {L : List One} {ks : List ByteArray} (h : Streams L ks) : ks.length ≤ L.length := by
  have h1 := streams_sum h
  have h2 : ∀ l : List ByteArray, (∀ s ∈ l, ofS L s ≠ []) → l.length ≤ sumS L l := by
    intro l
    induction l with
    | nil => intro _; simp
    | cons s l ih =>
      intro hl
      have := ih (fun t ht => hl t (List.mem_cons_of_mem _ ht))
      have h3 : 0 < (ofS L s).length := List.length_pos_iff.2 (hl s List.mem_cons_self)
      simp only [sumS, List.map_cons, List.sum_cons, List.length_cons] at this ⊢
      omega
  have := h2 ks (fun s hs => (h.2 s).1 hs)
  omega
end Go.Proofs.YthebmbhdlkldiaaGreatDoor.Idx

namespace Go.Proofs.YthebmbhdlkldiaaGreatDoor
open Go.RowKit Go.Bl

/-! ### rising lists -/
theorem rise_ext {α : Type} {R : α → α → Prop} (ht : ∀ a b c, R a b → R b c → R a c) (hi : ∀ a, ¬ R a a) : ∀ {xs ys : List α}, xs.Pairwise R → ys.Pairwise R → (∀ s, s ∈ xs ↔ s ∈ ys) → xs = ys
  | [], [], _, _, _ => rfl
  | [], y :: ys, _, _, h => absurd ((h y).2 (by simp)) (by simp)
  | x :: xs, [], _, _, h => absurd ((h x).1 (by simp)) (by simp)
  | x :: xs, y :: ys, hx, hy, h => by
    obtain ⟨a1, a2⟩ := List.pairwise_cons.1 hx
    obtain ⟨b1, b2⟩ := List.pairwise_cons.1 hy
    have e : x = y := by
      rcases List.mem_cons.1 ((h x).1 (by simp)) with e | e
      · exact e
      · rcases List.mem_cons.1 ((h y).2 (by simp)) with e' | e'
        · exact e'.symm
        · exact absurd (ht _ _ _ (a1 y e') (b1 x e)) (hi x)
    subst e
    rw [rise_ext ht hi a2 b2 (fun s => ?_)]
    have := h s
    rw [List.mem_cons, List.mem_cons] at this
    constructor
    · intro hs
      rcases this.1 (.inr hs) with e | e
      · subst e; exact absurd (a1 s hs) (hi s)
      · exact e
    · intro hs
      rcases this.2 (.inr hs) with e | e
      · subst e; exact absurd (b1 s hs) (hi s)
      · exact e
def insJ (x : Int) : List Int → List Int
  | [] => [x]
  | y :: ys => if x < y then x :: y :: ys else if x = y then y :: ys else y :: insJ x ys
theorem insJ_mem (x z : Int) : ∀ ks : List Int, z ∈ insJ x ks ↔ z = x ∨ z ∈ ks
  | [] => by simp [insJ]
  | y :: ys => by
    unfold insJ
    split
    · simp
    · split
      · rename_i h; subst h; simp
      · rw [List.mem_cons, insJ_mem x z ys, List.mem_cons]
        constructor
        · rintro (h | h | h) <;> simp [h]
        · rintro (h | h | h) <;> simp [h]
theorem insJ_rise (x : Int) : ∀ {ks : List Int}, ks.Pairwise (· < ·) → (insJ x ks).Pairwise (· < ·)
  | [], _ => by simp [insJ]
  | y :: ys, h => by
    obtain ⟨h1, h2⟩ := List.pairwise_cons.1 h
    unfold insJ
    split
    · rename_i hxy
      refine List.pairwise_cons.2 ⟨fun z hz => ?_, h⟩
      rcases List.mem_cons.1 hz with e | e
      · omega
      · have := h1 z e; omega
    · split
      · exact h
      · refine List.pairwise_cons.2 ⟨fun z hz => ?_, insJ_rise x h2⟩
        rcases (insJ_mem x z ys).1 hz with e | e
        · omega
        · exact h1 z e
def riseL : List Int → List Int
  | [] => []
  | y :: l => insJ y (riseL l)
theorem riseL_rise : ∀ l : List Int, (riseL l).Pairwise (· < ·)
  | [] => List.Pairwise.nil
  | y :: l => insJ_rise y (riseL_rise l)
theorem riseL_mem : ∀ (l : List Int) (x : Int), x ∈ riseL l ↔ x ∈ l
  | [], x => Iff.rfl
  | y :: l, x => by
    show x ∈ insJ y (riseL l) ↔ _
    rw [insJ_mem, List.mem_cons, riseL_mem l]

/-! ### states of the same streams and known requests -/
structure Eqv (s t : St) : Prop where
  ofS : ∀ n, Idx.ofS s.L n = Idx.ofS t.L n
  high : ∀ x, Ded.highL s.T x = Ded.highL t.T x
  find : ∀ x y, Ded.highL t.T x - 8 < y → Ded.findL s.T x y = Ded.findL t.T x y
  ses : ∀ x, (∃ e ∈ s.T, e.ses = x) ↔ ∃ e ∈ t.T, e.ses = x
  len : s.T.length ≤ t.T.length
  ap : s.ap = t.ap
theorem ofS_len {L M : List Idx.One} (h : ∀ n, Idx.ofS L n = Idx.ofS M n) : L.length = M.length := by
  have h0 := Idx.namesOf_spec L
  have h1 := Idx.streams_sum (L := L) (ks := Idx.namesOf L) h0
  have h3 := Idx.streams_sum (L := M) (ks := Idx.namesOf L) ⟨h0.1, fun s => by rw [← h]; exact h0.2 s⟩
  rw [← h1, ← h3]
  unfold Idx.sumS
  simp only [h]
theorem idx_eqv {w : World} {p : Nat} {L M : List Idx.One} {F : Nat → Prop} (h : Idx.IdxAt w p L F) (he : ∀ n, Idx.ofS L n = Idx.ofS M n) : Idx.IdxAt w p M F := by
  obtain ⟨bm, V, n, h⟩ := h
  have hl := ofS_len he
  refine ⟨bm, V, n, ?_⟩
  rw [← hl]
  refine ⟨h.blk, ?_, by rw [← hl]; exact h.le, fun s => by rw [← he]; exact h.rows s, fun s e => h.nil s (by rw [he]; exact e), h.apart, h.fp, h.fm, h.fv, h.lt⟩
  have := h.map
  simp only [he] at this
  exact this
theorem ses_eqv {w : World} {L M : List Ded.En} {r : Ded.SRow} (h : Ded.SesIn w L r) (hh : ∀ x, Ded.highL L x = Ded.highL M x) (hf : ∀ x y, Ded.highL M x - 8 < y → Ded.findL L x y = Ded.findL M x y) (hn : L.length ≤ M.length) : Ded.SesIn w M r :=
  ⟨by rw [← hh]; exact h.blk, h.map, fun q hq => by
    obtain ⟨a, o, b, c⟩ := h.out q hq
    rw [hh] at a
    exact ⟨a, o, by rw [← hf _ _ a]; exact b, c⟩, fun y o hy ho => h.all y o (by rw [hh]; exact hy) (by rw [hf _ _ hy]; exact ho), Nat.le_trans h.olen hn⟩
theorem tab_eqv {w : World} {p : Nat} {L M : List Ded.En} {F G : Nat → Prop} (h : Ded.TabAt w p L F G) (hok : Ded.OkL M) (hh : ∀ x, Ded.highL L x = Ded.highL M x) (hf : ∀ x y, Ded.highL M x - 8 < y → Ded.findL L x y = Ded.findL M x y) (hn : L.length ≤ M.length)
    (hs : ∀ x, (∃ e ∈ L, e.ses = x) ↔ ∃ e ∈ M, e.ses = x) : Ded.TabAt w p M F G := by
  obtain ⟨bm, R, h, h2, h3⟩ := h
  refine ⟨bm, R, ⟨h.blk, h.map, fun r hr => ses_eqv (h.ses r hr) hh hf hn, fun e he => ?_, h.dist, h.dism, h.fp, h.gp, h.gm, h.gb, h.fo, h.gf, h.lt, hok⟩, Nat.le_trans h2 hn, fun r hr => (hs r.n).1 (h3 r hr)⟩
  obtain ⟨e', he', q⟩ := (hs e.ses).2 ⟨e, he, rfl⟩
  obtain ⟨r, hr, q2⟩ := h.mem e' he'
  exact ⟨r, hr, q2.trans q⟩

/-! ### parts -/
structure Sp where
  name : ByteArray
  evs : List Ev
  pos : List Int
structure Pt where
  ap : Int
  ss : List Sp
  rs : List Ded.En
def posB (ap : Int) : Int → List Int → List Ev → Bool
  | _, [], _ => true
  | _, _ :: _, [] => false
  | last, p :: ps, e :: es => decide (last ≤ p) && (decide (p ≤ ap) && (rightE e && posB ap p ps es))
def spOk (ap : Int) (x : Sp) : Bool := posB ap 1 x.pos x.evs && (nameB x.name && (decide (0 < x.evs.length) && decide (x.evs.length = x.pos.length)))
def lgI : Int := 274877906944
def rqOk (ap : Int) (r : Ded.En) : Bool :=
  (decide (r.o.code = 1) || decide (r.o.code = 2)) && (numB r.ses && (numB r.seq && (decide (1 ≤ r.o.pos) && (decide (r.o.pos ≤ ap) && (decide (0 ≤ r.o.first) && (decide (r.o.first ≤ r.o.ver) && decide (r.o.ver ≤ 274877906944)))))))
def Rises (a b : Ded.En) : Prop := a.ses < b.ses ∨ (a.ses = b.ses ∧ a.seq < b.seq)
theorem Rises.trans (a b c : Ded.En) (h : Rises a b) (k : Rises b c) : Rises a c := by unfold Rises at *; omega
theorem Rises.irrefl (a : Ded.En) : ¬ Rises a a := by unfold Rises; omega
/-- Parts are right. -/
structure PtOk (p : Pt) : Prop where
  ap : 0 ≤ p.ap ∧ p.ap ≤ 274877906944
  ss : ∀ i (h : i < p.ss.length), spOk p.ap p.ss[i] = true
  up : ∀ i (h : i + 1 < p.ss.length), bLt p.ss[i].name p.ss[i + 1].name
  rs : ∀ i (h : i < p.rs.length), rqOk p.ap p.rs[i] = true
  ri : ∀ i (h : i + 1 < p.rs.length), Rises p.rs[i] p.rs[i + 1]
  kn : ∀ r ∈ p.rs, (Ded.lookL p.rs r.ses r.seq).2 = 1
def onesOf (x : Sp) : List Idx.One := (x.pos.zip x.evs).map fun q => Idx.mkOne x.name q.1 q.2
def stOf (p : Pt) : St := ⟨p.ss.flatMap onesOf, p.rs, p.ap⟩
def spOf (L : List Idx.One) (n : ByteArray) : Sp := ⟨n, (Idx.ofS L n).map Idx.Kp.e, (Idx.ofS L n).map Idx.Kp.pos⟩
def seqsOf (T : List Ded.En) (x : Int) : List Int := riseL ((T.filter fun e => decide (e.ses = x) && decide ((Ded.lookL T x e.seq).2 = 1)).map Ded.En.seq)
def sesOf (T : List Ded.En) : List Int := riseL (T.map Ded.En.ses)
def reqsOf (T : List Ded.En) : List Ded.En := (sesOf T).flatMap fun x => (seqsOf T x).map fun y => ⟨x, y, (Ded.lookL T x y).1⟩
def ptOf (s : St) : Pt := ⟨s.ap, (Idx.namesOf s.L).map (spOf s.L), reqsOf s.T⟩

theorem pairwise_of_step {α : Type} {R : α → α → Prop} (ht : ∀ a b c, R a b → R b c → R a c) : ∀ {l : List α}, (∀ i (h : i + 1 < l.length), R l[i] l[i + 1]) → l.Pairwise R
  | [], _ => List.Pairwise.nil
  | [x], _ => by simp
  | x :: y :: l, h => by
    have ih := pairwise_of_step ht (l := y :: l) (fun i hi => h (i + 1) (by simp at hi ⊢; omega))
    have h0 : R x y := h 0 (by simp)
    refine List.pairwise_cons.2 ⟨fun z hz => ?_, ih⟩
    rcases List.mem_cons.1 hz with e | e
    · subst e; exact h0
    · exact ht _ _ _ h0 ((List.pairwise_cons.1 ih).1 z e)
theorem step_of_pairwise {α : Type} {R : α → α → Prop} {l : List α} (h : l.Pairwise R) (i : Nat) (hi : i + 1 < l.length) : R l[i] l[i + 1] := List.pairwise_iff_getElem.1 h i (i + 1) (by omega) hi (by omega)

/-! #### what a table knows -/
theorem seq_le_high {T : List Ded.En} (e : Ded.En) (he : e ∈ T) : e.seq ≤ Ded.highL T e.ses := by
  unfold Ded.highL
  have mono : ∀ (T : List Ded.En) (a : Int), a ≤ T.foldl (fun h z => if z.ses = e.ses then max h z.seq else h) a := by
    intro T
    induction T with
    | nil => intro a; exact Int.le_refl _
    | cons z T ih =>
      intro a
      rw [List.foldl_cons]
      refine Int.le_trans ?_ (ih _)
      split <;> omega
  have : ∀ (T : List Ded.En) (a : Int), e ∈ T → e.seq ≤ T.foldl (fun h z => if z.ses = e.ses then max h z.seq else h) a := by
    intro T
    induction T with
    | nil => intro a h; cases h
    | cons z T ih =>
      intro a h
      rw [List.foldl_cons]
      rcases List.mem_cons.1 h with q | q
      · subst q
        refine Int.le_trans ?_ (mono T _)
        rw [if_pos rfl]; omega
      · exact ih _ q
  exact this T 0 he
theorem high_from {T : List Ded.En} (x : Int) : Ded.highL T x = 0 ∨ ∃ e ∈ T, e.ses = x ∧ e.seq = Ded.highL T x := by
  unfold Ded.highL
  have : ∀ (T : List Ded.En) (a : Int), T.foldl (fun h z => if z.ses = x then max h z.seq else h) a = a ∨ ∃ e ∈ T, e.ses = x ∧ e.seq = T.foldl (fun h z => if z.ses = x then max h z.seq else h) a := by
    intro T
    induction T with
    | nil => intro a; exact .inl rfl
    | cons z T ih =>
      intro a
      rw [List.foldl_cons]
      rcases ih (if z.ses = x then max a z.seq else a) with h | ⟨e, he, h1, h2⟩
      · rw [h]
        split
        · rename_i hz
          by_cases hm : z.seq ≤ a
          · left; omega
          · right
            exact ⟨z, List.mem_cons_self, hz, by omega⟩
        · exact .inl rfl
      · exact .inr ⟨e, List.mem_cons_of_mem _ he, h1, h2⟩
  exact this T 0
/-- The session's highest request is known. -/
theorem high_known {T : List Ded.En} (hok : Ded.OkL T) {x : Int} (h : ∃ e ∈ T, e.ses = x) : ∃ e ∈ T, e.ses = x ∧ e.seq = Ded.highL T x := by
  rcases high_from (T := T) x with h0 | h0
  · obtain ⟨e, he, rfl⟩ := h
    have h1 := seq_le_high e he
    have h2 := (hok.seq e he).1
    omega
  · exact h0
theorem find_some {T : List Ded.En} {e : Ded.En} (he : e ∈ T) : ∃ o, Ded.findL T e.ses e.seq = some o := by
  cases hf : Ded.findL T e.ses e.seq with
  | some o => exact ⟨o, rfl⟩
  | none =>
    unfold Ded.findL at hf
    rw [Option.map_eq_none_iff, List.find?_eq_none] at hf
    exact absurd (hf e he) (by simp)
theorem find_in {T : List Ded.En} {x y : Int} {o : Ded.Oc} (h : Ded.findL T x y = some o) : (⟨x, y, o⟩ : Ded.En) ∈ T := by
  obtain ⟨e, he, ho⟩ := Option.map_eq_some_iff.1 h
  have hp := List.find?_some he
  simp only [Bool.and_eq_true, decide_eq_true_eq] at hp
  have := List.mem_of_find?_eq_some he
  obtain ⟨s, q, o'⟩ := e
  obtain ⟨rfl, rfl⟩ := hp
  subst ho
  exact this
theorem find_rise : ∀ {T : List Ded.En}, T.Pairwise Rises → ∀ e ∈ T, Ded.findL T e.ses e.seq = some e.o
  | [], _, e, he => by cases he
  | z :: T, h, e, he => by
    obtain ⟨h1, h2⟩ := List.pairwise_cons.1 h
    rcases List.mem_cons.1 he with q | q
    · subst q
      unfold Ded.findL
      rw [List.find?_cons, show (decide (e.ses = e.ses) && decide (e.seq = e.seq)) = true by simp]
      rfl
    · have hne := h1 e q
      have ih := find_rise h2 e q
      unfold Ded.findL at ih ⊢
      rw [List.find?_cons, show (decide (z.ses = e.ses) && decide (z.seq = e.seq)) = false by unfold Rises at hne; rw [Bool.and_eq_false_iff, decide_eq_false_iff_not, decide_eq_false_iff_not]; omega]
      exact ih
theorem seqs_mem {T : List Ded.En} (x y : Int) : y ∈ seqsOf T x ↔ (Ded.lookL T x y).2 = 1 := by
  unfold seqsOf
  rw [riseL_mem, List.mem_map]
  constructor
  · rintro ⟨e, he, rfl⟩
    have := (List.mem_filter.1 he).2
    simp only [Bool.and_eq_true, decide_eq_true_eq] at this
    exact this.2
  · intro hy
    have hf : ∃ o, Ded.findL T x y = some o := by
      unfold Ded.lookL at hy
      split at hy
      · simp at hy
      · cases hc : Ded.findL T x y with
        | none => rw [hc] at hy; simp at hy
        | some o => exact ⟨o, rfl⟩
    obtain ⟨o, ho⟩ := hf
    have := find_in ho
    exact ⟨_, List.mem_filter.2 ⟨this, by simp [hy]⟩, rfl⟩
theorem look_one {T : List Ded.En} {x y : Int} (h : (Ded.lookL T x y).2 = 1) : Ded.findL T x y = some (Ded.lookL T x y).1 ∧ 1 ≤ y ∧ Ded.highL T x - 8 < y := by
  unfold Ded.lookL at h ⊢
  by_cases ho : y < 1 ∨ y ≤ Ded.highL T x - 8
  · rw [if_pos ho] at h; simp at h
  · rw [if_neg ho] at h ⊢
    cases hc : Ded.findL T x y with
    | none => rw [hc] at h; simp at h
    | some o => exact ⟨rfl, by omega, by omega⟩
theorem reqs_mem {T : List Ded.En} (e : Ded.En) : e ∈ reqsOf T ↔ Ded.lookL T e.ses e.seq = (e.o, 1) := by
  unfold reqsOf
  rw [List.mem_flatMap]
  constructor
  · rintro ⟨x, _, h⟩
    obtain ⟨y, hy, rfl⟩ := List.mem_map.1 h
    rw [seqs_mem] at hy
    show Ded.lookL T x y = ((Ded.lookL T x y).1, 1)
    rw [← hy]
  · intro h
    have h1 : (Ded.lookL T e.ses e.seq).2 = 1 := by rw [h]
    have hf := look_one h1
    refine ⟨e.ses, ?_, List.mem_map.2 ⟨e.seq, (seqs_mem _ _).2 h1, ?_⟩⟩
    · unfold sesOf
      rw [riseL_mem, List.mem_map]
      exact ⟨_, find_in hf.1, rfl⟩
    · rw [h]
theorem reqs_rise (T : List Ded.En) : (reqsOf T).Pairwise Rises := by
  have : ∀ xs : List Int, xs.Pairwise (· < ·) → (xs.flatMap fun x => (seqsOf T x).map fun y => (⟨x, y, (Ded.lookL T x y).1⟩ : Ded.En)).Pairwise Rises := by
    intro xs
    induction xs with
    | nil => intro _; exact List.Pairwise.nil
    | cons x xs ih =>
      intro h
      obtain ⟨h1, h2⟩ := List.pairwise_cons.1 h
      rw [List.flatMap_cons, List.pairwise_append]
      refine ⟨?_, ih h2, fun a ha b hb => ?_⟩
      · rw [List.pairwise_map]
        exact (riseL_rise _).imp (fun {a b} hab => .inr ⟨rfl, hab⟩)
      · obtain ⟨y, _, rfl⟩ := List.mem_map.1 ha
        obtain ⟨x', hx', hb⟩ := List.mem_flatMap.1 hb
        obtain ⟨y', _, rfl⟩ := List.mem_map.1 hb
        exact .inl (h1 x' hx')
  exact this _ (riseL_rise _)

/-! #### the parts of what is made of parts -/
theorem ofS_ones (x : Sp) (n : ByteArray) : Idx.ofS (onesOf x) n = if x.name = n then (x.pos.zip x.evs).map (fun q => (⟨q.1, q.2⟩ : Idx.Kp)) else [] := by
  unfold Idx.ofS onesOf
  rw [List.filter_map]
  by_cases h : x.name = n
  · rw [if_pos h]
    have : ((fun o : Idx.One => decide (o.stream = n)) ∘ fun q : Int × Ev => Idx.mkOne x.name q.1 q.2) = fun _ => true := by
      funext q; simp [Idx.mkOne, h]
    rw [this, List.filter_eq_self.2 (fun _ _ => rfl), List.map_map]
    rfl
  · rw [if_neg h]
    have : ((fun o : Idx.One => decide (o.stream = n)) ∘ fun q : Int × Ev => Idx.mkOne x.name q.1 q.2) = fun _ => false := by
      funext q; simp [Idx.mkOne, h]
    rw [this, List.filter_eq_nil_iff.2 (fun _ _ => by simp)]
    rfl
theorem ofS_flat : ∀ (ss : List Sp) (n : ByteArray), Idx.ofS (ss.flatMap onesOf) n = ss.flatMap fun x => if x.name = n then (x.pos.zip x.evs).map (fun q => (⟨q.1, q.2⟩ : Idx.Kp)) else []
  | [], n => rfl
  | x :: ss, n => by rw [List.flatMap_cons, List.flatMap_cons, Idx.ofS_append, ofS_ones, ofS_flat ss n]
theorem flat_none {ss : List Sp} {n : ByteArray} (h : ∀ x ∈ ss, x.name ≠ n) : (ss.flatMap fun x => if x.name = n then (x.pos.zip x.evs).map (fun q => (⟨q.1, q.2⟩ : Idx.Kp)) else []) = [] := by
  rw [List.flatMap_eq_nil_iff]
  intro x hx
  rw [if_neg (h x hx)]
theorem flat_one : ∀ {ss : List Sp}, (ss.map Sp.name).Nodup → ∀ {x : Sp}, x ∈ ss → (ss.flatMap fun z => if z.name = x.name then (z.pos.zip z.evs).map (fun q => (⟨q.1, q.2⟩ : Idx.Kp)) else []) = (x.pos.zip x.evs).map (fun q => (⟨q.1, q.2⟩ : Idx.Kp))
  | z :: ss, h, x, hx => by
    rw [List.map_cons, List.nodup_cons] at h
    rw [List.flatMap_cons]
    rcases List.mem_cons.1 hx with q | q
    · subst q
      rw [if_pos rfl, flat_none (fun y hy e => h.1 (List.mem_map.2 ⟨y, hy, e⟩)), List.append_nil]
    · rw [if_neg (fun e => h.1 (List.mem_map.2 ⟨x, q, e.symm⟩)), flat_one h.2 q, List.nil_append]
theorem PtOk.names {p : Pt} (h : PtOk p) : Rising (p.ss.map Sp.name) := by
  show (p.ss.map Sp.name).Pairwise bLt
  refine pairwise_of_step (R := bLt) (fun a b c h k => Idx.bLt_trans h k) (fun i hi => ?_)
  have hi' : i + 1 < p.ss.length := by simpa using hi
  rw [List.getElem_map, List.getElem_map]
  exact h.up i hi'
theorem rising_nodup {ks : List ByteArray} (h : Rising ks) : ks.Nodup := h.imp fun {a b} hab e => by subst e; exact Idx.bLt_irrefl _ hab
theorem spOk_len {ap : Int} {x : Sp} (h : spOk ap x = true) : 0 < x.evs.length ∧ x.evs.length = x.pos.length := by
  simp only [spOk, Bool.and_eq_true, decide_eq_true_eq] at h
  exact h.2.2
theorem zip_fst {α β : Type} : ∀ {a : List α} {b : List β}, a.length = b.length → (a.zip b).map Prod.fst = a
  | [], _, _ => by simp
  | x :: a, [], h => by simp at h
  | x :: a, y :: b, h => by simp [zip_fst (a := a) (b := b) (by simpa using h)]
theorem zip_snd {α β : Type} : ∀ {a : List α} {b : List β}, a.length = b.length → (a.zip b).map Prod.snd = b
  | [], [], _ => by simp
  | [], y :: b, h => by simp at h
  | x :: a, [], h => by simp at h
  | x :: a, y :: b, h => by simp [zip_snd (a := a) (b := b) (by simpa using h)]
theorem ok_mem {p : Pt} (h : PtOk p) {x : Sp} (hx : x ∈ p.ss) : spOk p.ap x = true := by
  obtain ⟨i, hi, rfl⟩ := List.mem_iff_getElem.1 hx
  exact h.ss i hi
theorem ofS_stOf {p : Pt} (h : PtOk p) {x : Sp} (hx : x ∈ p.ss) : Idx.ofS (stOf p).L x.name = (x.pos.zip x.evs).map (fun q => (⟨q.1, q.2⟩ : Idx.Kp)) := by
  show Idx.ofS (p.ss.flatMap onesOf) x.name = _
  rw [ofS_flat, flat_one (rising_nodup h.names) hx]
theorem names_stOf {p : Pt} (h : PtOk p) : Idx.namesOf (stOf p).L = p.ss.map Sp.name := by
  refine Idx.rising_ext (Idx.namesOf_spec _).1 h.names (fun n => ?_)
  rw [(Idx.namesOf_spec _).2, List.mem_map]
  constructor
  · intro hn
    apply Decidable.byContradiction
    intro hc
    apply hn
    show Idx.ofS (p.ss.flatMap onesOf) n = []
    rw [ofS_flat]
    exact flat_none (fun x hx e => hc ⟨x, hx, e⟩)
  · rintro ⟨x, hx, rfl⟩ hc
    rw [ofS_stOf h hx] at hc
    have hl := spOk_len (ok_mem h hx)
    have := congrArg List.length hc
    rw [List.length_map, List.length_zip, List.length_nil] at this
    omega
theorem spOf_stOf {p : Pt} (h : PtOk p) {x : Sp} (hx : x ∈ p.ss) : spOf (stOf p).L x.name = x := by
  have hl := spOk_len (ok_mem h hx)
  unfold spOf
  rw [ofS_stOf h hx, List.map_map, List.map_map]
  show Sp.mk x.name ((x.pos.zip x.evs).map Prod.snd) ((x.pos.zip x.evs).map Prod.fst) = x
  rw [zip_fst (by omega), zip_snd (by omega)]
theorem PtOk.rise {p : Pt} (h : PtOk p) : p.rs.Pairwise Rises := pairwise_of_step Rises.trans h.ri
/-- What is made of right parts has just these. -/
theorem ptOf_stOf {p : Pt} (h : PtOk p) : ptOf (stOf p) = p := by
  have h1 : (Idx.namesOf (stOf p).L).map (spOf (stOf p).L) = p.ss := by
    rw [names_stOf h, List.map_map]
    conv => rhs; rw [← List.map_id p.ss]
    exact List.map_congr_left (fun x hx => spOf_stOf h hx)
  have h2 : reqsOf (stOf p).T = p.rs := by
    refine rise_ext Rises.trans Rises.irrefl (reqs_rise _) h.rise (fun e => ?_)
    rw [reqs_mem]
    show Ded.lookL p.rs e.ses e.seq = (e.o, 1) ↔ _
    constructor
    · intro hl
      have h3 := look_one (T := p.rs) (x := e.ses) (y := e.seq) (by rw [hl])
      rw [hl] at h3
      exact find_in h3.1
    · intro he
      have h3 := h.kn e he
      have h4 := look_one h3
      rw [find_rise h.rise e he] at h4
      have h5 := Option.some.inj h4.1
      rw [h5, ← h3]
  unfold ptOf
  rw [h1, h2]
  rfl

/-! #### a state that entries made -/
structure Rch (s : St) : Prop where
  ap : 0 ≤ s.ap ∧ s.ap ≤ 1000000
  strm : ∀ o ∈ s.L, nameB o.stream = true ∧ rightE o.e = true ∧ 1 ≤ o.pos ∧ o.pos ≤ s.ap
  mono : s.L.Pairwise fun a b => a.pos ≤ b.pos
  tab : ∀ e ∈ s.T, rqOk s.ap e = true
  len : (s.L.length : Int) ≤ 8 * s.ap
theorem Rch.new : Rch St.new := ⟨by simp [St.new], by simp [St.new], by simp [St.new], by simp [St.new], by simp [St.new]⟩
theorem rqOk_iff {ap : Int} {r : Ded.En} : rqOk ap r = true ↔ (r.o.code = 1 ∨ r.o.code = 2) ∧ (1 ≤ r.ses ∧ r.ses ≤ 274877906944) ∧ (1 ≤ r.seq ∧ r.seq ≤ 274877906944) ∧ 1 ≤ r.o.pos ∧ r.o.pos ≤ ap ∧ 0 ≤ r.o.first ∧ r.o.first ≤ r.o.ver ∧ r.o.ver ≤ 274877906944 := by
  simp only [rqOk, numB, Bool.and_eq_true, Bool.or_eq_true, decide_eq_true_eq]
theorem rqOk_mono {ap ap' : Int} {r : Ded.En} (h : rqOk ap r = true) (ha : ap ≤ ap') : rqOk ap' r = true := by
  rw [rqOk_iff] at h ⊢
  omega
theorem Rch.okL {s : St} (h : Rch s) : Ded.OkL s.T := by
  constructor <;> intro e he <;> have := rqOk_iff.1 (h.tab e he) <;> omega
theorem right_more {a : Ent} (h : rightB a = true) : nameB a.stream = true ∧ ∀ e ∈ a.evs, rightE e = true := by
  simp only [rightB, Bool.and_eq_true, decide_eq_true_eq] at h
  have h3 := h.2.2
  unfold fitsI at h3
  split at h3
  · omega
  rename_i h1
  split at h3
  · omega
  split at h3
  · omega
  split at h3
  · omega
  split at h3
  · omega
  split at h3
  · omega
  split at h3
  · omega
  rename_i h7
  refine ⟨by simpa using h1, fun e he => ?_⟩
  cases hr : rightE e
  · exact absurd (List.any_eq_true.2 ⟨e, he, by rw [hr]; rfl⟩) h7
  · rfl
theorem verS_bd (s : St) (n : ByteArray) : 0 ≤ verS s n ∧ verS s n ≤ s.L.length := by
  have := Idx.ofS_le s.L n
  unfold verS
  omega
theorem Rch.step {s : St} (h : Rch s) {a : Ent} (hb : (applyS s a).1.ap ≤ 1000000) : Rch (applyS s a).1 := by
  by_cases hr : rightB a = true ∧ a.pos = s.ap + 1
  · obtain ⟨h1, h2⟩ := hr
    have hn := right_nums h1
    have hm := right_more h1
    have hap := h.ap
    have hlen := h.len
    have keepS : ∀ o ∈ s.L, nameB o.stream = true ∧ rightE o.e = true ∧ 1 ≤ o.pos ∧ o.pos ≤ a.pos := fun o ho => by have := h.strm o ho; exact ⟨this.1, this.2.1, this.2.2.1, by omega⟩
    have keepT : ∀ e ∈ s.T, rqOk a.pos e = true := fun e he => rqOk_mono (h.tab e he) (by omega)
    have hv := verS_bd s a.stream
    rcases apply_next h1 h2 with ⟨o, _, _, _, e⟩ | ⟨_, _, e⟩ | ⟨_, _, _, e⟩
    · rw [e] at hb ⊢
      exact ⟨⟨by simp only; omega, hb⟩, keepS, h.mono, keepT, by simp only; omega⟩
    · rw [e] at hb ⊢
      exact ⟨⟨by simp only; omega, hb⟩, keepS, h.mono, keepT, by simp only; omega⟩
    · rw [e] at hb ⊢
      simp only at hb
      have hO : rqOk a.pos ⟨a.session, a.seq, freshO s a⟩ = true := by
        rw [rqOk_iff]
        have o1 : (freshO s a).code = 1 ∨ (freshO s a).code = 2 := by unfold freshO; split <;> simp
        have o2 : (freshO s a).pos = a.pos := by unfold freshO; split <;> rfl
        have o3 : (freshO s a).first = verS s a.stream := by unfold freshO; split <;> rfl
        have o4 : (freshO s a).ver = verS s a.stream ∨ (freshO s a).ver = verS s a.stream + a.evs.length := by
          unfold freshO; split
          · exact .inl rfl
          · exact .inr rfl
        refine ⟨o1, hn.2.2.1, hn.2.2.2.1, ?_, ?_, ?_, ?_, ?_⟩ <;> (try show _ ≤ (freshO s a).pos) <;> (try show _ ≤ (freshO s a).first) <;> (try show (freshO s a).first ≤ (freshO s a).ver) <;> (try show (freshO s a).pos ≤ a.pos) <;> (try show (freshO s a).ver ≤ _) <;> omega
      refine ⟨⟨by simp only; omega, hb⟩, ?_, ?_, fun z hz => ?_, ?_⟩
      · show ∀ o ∈ freshL s a, _
        unfold freshL
        split
        · exact keepS
        · intro o ho
          unfold addS at ho
          rcases List.mem_append.1 ho with q | q
          · exact keepS o q
          · obtain ⟨z, hz, rfl⟩ := List.mem_map.1 q
            exact ⟨hm.1, hm.2 z hz, by show 1 ≤ a.pos; omega, Int.le_refl a.pos⟩
      · show (freshL s a).Pairwise _
        unfold freshL
        split
        · exact h.mono
        · unfold addS
          rw [List.pairwise_append]
          refine ⟨h.mono, ?_, fun x hx y hy => ?_⟩
          · rw [List.pairwise_map]
            exact List.pairwise_iff_getElem.2 (fun _ _ _ _ _ => Int.le_refl a.pos)
          · obtain ⟨z, _, rfl⟩ := List.mem_map.1 hy
            have := (h.strm x hx).2.2.2
            show x.pos ≤ a.pos
            omega
      · rcases List.mem_append.1 hz with q | q
        · exact keepT z q
        · rw [List.mem_singleton.1 q]
          exact hO
      · have := freshL_len s a
        show ((freshL s a).length : Int) ≤ 8 * a.pos
        omega
  · have := (apply_err (s := s) (a := a) (by
      by_cases h1 : rightB a = true
      · exact .inr (fun h2 => hr ⟨h1, h2⟩)
      · exact .inl (by simpa using h1))).1
    rw [this]
    exact h
theorem pos_row {ap : Int} : ∀ (l : List Idx.Kp) (last : Int), (∀ k ∈ l, rightE k.e = true ∧ last ≤ k.pos ∧ k.pos ≤ ap) → l.Pairwise (fun a b => a.pos ≤ b.pos) → posB ap last (l.map Idx.Kp.pos) (l.map Idx.Kp.e) = true
  | [], _, _, _ => rfl
  | k :: l, last, h, hp => by
    obtain ⟨h1, h2⟩ := List.pairwise_cons.1 hp
    have hk := h k List.mem_cons_self
    have ih := pos_row l k.pos (fun z hz => ⟨(h z (List.mem_cons_of_mem _ hz)).1, h1 z hz, (h z (List.mem_cons_of_mem _ hz)).2.2⟩) h2
    simp only [List.map_cons, posB, Bool.and_eq_true, decide_eq_true_eq]
    exact ⟨hk.2.1, hk.2.2, hk.1, ih⟩
theorem ofS_mem {L : List Idx.One} {n : ByteArray} {k : Idx.Kp} (h : k ∈ Idx.ofS L n) : ∃ o ∈ L, o.stream = n ∧ o.kp = k := by
  unfold Idx.ofS at h
  obtain ⟨o, ho, rfl⟩ := List.mem_map.1 h
  have := List.mem_filter.1 ho
  exact ⟨o, this.1, by simpa using this.2, rfl⟩
theorem Rch.sp {s : St} (h : Rch s) {n : ByteArray} (hn : n ∈ Idx.namesOf s.L) : spOk s.ap (spOf s.L n) = true := by
  rw [(Idx.namesOf_spec _).2] at hn
  have hpos : 0 < (Idx.ofS s.L n).length := List.length_pos_iff.2 hn
  have hname : nameB n = true := by
    obtain ⟨o, ho, e, _⟩ := ofS_mem (List.getElem_mem (l := Idx.ofS s.L n) (n := 0) hpos)
    rw [← e]
    exact (h.strm o ho).1
  have hm : (Idx.ofS s.L n).Pairwise fun a b => a.pos ≤ b.pos := by
    unfold Idx.ofS
    rw [List.pairwise_map]
    exact (h.mono.filter _).imp (fun {a b} hab => hab)
  simp only [spOk, spOf, Bool.and_eq_true, decide_eq_true_eq, List.length_map]
  refine ⟨pos_row _ 1 (fun k hk => ?_) hm, hname, hpos, trivial⟩
  obtain ⟨o, ho, _, rfl⟩ := ofS_mem hk
  exact (h.strm o ho).2
theorem high_reqs {T : List Ded.En} (hok : Ded.OkL T) (x : Int) : Ded.highL (reqsOf T) x = Ded.highL T x := by
  have hle : Ded.highL (reqsOf T) x ≤ Ded.highL T x := by
    rcases high_from (T := reqsOf T) x with h | ⟨e, he, h1, h2⟩
    · rw [h]; exact (Ded.highL_in hok x).1
    · rw [← h2, ← h1]
      rw [reqs_mem] at he
      have h3 := (look_one (T := T) (x := e.ses) (y := e.seq) (by rw [he])).1
      rw [he] at h3
      exact seq_le_high e (find_in h3)
  have hge : Ded.highL T x ≤ Ded.highL (reqsOf T) x := by
    by_cases hx : ∃ e ∈ T, e.ses = x
    · obtain ⟨e, he, h1, h2⟩ := high_known hok hx
      obtain ⟨o, ho⟩ := find_some he
      have hs := hok.seq e he
      have hl : Ded.lookL T e.ses e.seq = (o, 1) := Ded.lookL_known (by rw [h1]; omega) ho
      have hmem : (⟨e.ses, e.seq, o⟩ : Ded.En) ∈ reqsOf T := (reqs_mem _).2 hl
      have := seq_le_high _ hmem
      simp only at this
      rw [h1] at this
      omega
    · rw [Ded.highL_none (fun e he q => hx ⟨e, he, q⟩)]
      rcases high_from (T := reqsOf T) x with h | ⟨e, he, h1, h2⟩
      · omega
      · rw [reqs_mem] at he
        have := find_in (look_one (T := T) (x := e.ses) (y := e.seq) (by rw [he])).1
        exact absurd ⟨_, this, h1⟩ hx
  omega
theorem find_reqs {T : List Ded.En} {x y : Int} (hok : Ded.OkL T) (hy : Ded.highL T x - 8 < y) : Ded.findL (reqsOf T) x y = Ded.findL T x y := by
  cases hf : Ded.findL T x y with
  | some o =>
    have hs := hok.seq _ (find_in hf)
    simp only at hs
    have hl : Ded.lookL T x y = (o, 1) := Ded.lookL_known (by omega) hf
    exact find_rise (reqs_rise T) ⟨x, y, o⟩ ((reqs_mem _).2 hl)
  | none =>
    cases hg : Ded.findL (reqsOf T) x y with
    | none => rfl
    | some o =>
      have := (reqs_mem _).1 (find_in hg)
      have h1 := (look_one (T := T) (x := x) (y := y) (by rw [this])).1
      rw [hf] at h1
      cases h1
theorem nodup_len {α : Type} [DecidableEq α] : ∀ {a b : List α}, a.Nodup → (∀ x ∈ a, x ∈ b) → a.length ≤ b.length
  | [], _, _, _ => Nat.zero_le _
  | x :: a, b, h, hs => by
    rw [List.nodup_cons] at h
    have h1 := nodup_len (a := a) (b := b.erase x) h.2 (fun y hy => (List.mem_erase_of_ne (fun e => by subst e; exact h.1 hy)).2 (hs y (List.mem_cons_of_mem _ hy)))
    have h2 := List.length_erase_of_mem (hs x List.mem_cons_self)
    have h3 := List.length_pos_of_mem (hs x List.mem_cons_self)
    simp only [List.length_cons]
    omega
theorem reqs_len (T : List Ded.En) : (reqsOf T).length ≤ T.length := by
  have := nodup_len (a := (reqsOf T).map fun e => (e.ses, e.seq)) (b := T.map fun e => (e.ses, e.seq)) (by
    unfold List.Nodup
    rw [List.pairwise_map]
    exact (reqs_rise T).imp (fun {a b} hab e => by
      unfold Rises at hab
      injection e with e1 e2
      omega)) (fun q hq => by
    obtain ⟨e, he, rfl⟩ := List.mem_map.1 hq
    have := (look_one (T := T) (x := e.ses) (y := e.seq) (by rw [(reqs_mem _).1 he])).1
    exact List.mem_map.2 ⟨_, find_in this, rfl⟩)
  simpa using this
theorem Rch.parts {s : St} (h : Rch s) : PtOk (ptOf s) := by
  have hap := h.ap
  have hN := Idx.namesOf_spec s.L
  refine ⟨⟨hap.1, Int.le_trans hap.2 (by decide)⟩, fun i hi => ?_, fun i hi => ?_, fun i hi => ?_, fun i hi => step_of_pairwise (reqs_rise s.T) i hi, fun r hr => ?_⟩
  · have hm := List.getElem_mem hi
    obtain ⟨n, hn, e⟩ := List.mem_map.1 (show (ptOf s).ss[i] ∈ (Idx.namesOf s.L).map (spOf s.L) from hm)
    rw [← e]
    exact h.sp hn
  · have hp : ((ptOf s).ss).Pairwise (fun a b => bLt a.name b.name) := by
      show ((Idx.namesOf s.L).map (spOf s.L)).Pairwise _
      rw [List.pairwise_map]
      exact hN.1
    exact step_of_pairwise hp i hi
  · show rqOk s.ap (reqsOf s.T)[i] = true
    have hm := (reqs_mem _).1 (List.getElem_mem (l := reqsOf s.T) (n := i) hi)
    generalize (reqsOf s.T)[i] = e at hm
    have h1 := (look_one (T := s.T) (x := e.ses) (y := e.seq) (by rw [hm])).1
    rw [hm] at h1
    exact h.tab _ (find_in h1)
  · have hm := (reqs_mem _).1 hr
    have h1 := look_one (T := s.T) (x := r.ses) (y := r.seq) (by rw [hm])
    have hf := find_rise (reqs_rise s.T) r hr
    show (Ded.lookL (reqsOf s.T) r.ses r.seq).2 = 1
    rw [Ded.lookL_known (by rw [high_reqs h.okL]; omega) hf]
theorem Rch.eqv {s : St} (h : Rch s) : Eqv (stOf (ptOf s)) s := by
  have hp := h.parts
  refine ⟨fun n => ?_, fun x => high_reqs h.okL x, fun x y hy => find_reqs h.okL hy, fun x => ?_, reqs_len s.T, rfl⟩
  · by_cases hn : n ∈ Idx.namesOf s.L
    · have := ofS_stOf hp (x := spOf s.L n) (List.mem_map.2 ⟨n, hn, rfl⟩)
      rw [show n = (spOf s.L n).name from rfl, this]
      show ((((Idx.ofS s.L n).map Idx.Kp.pos).zip ((Idx.ofS s.L n).map Idx.Kp.e)).map fun q => (⟨q.1, q.2⟩ : Idx.Kp)) = Idx.ofS s.L n
      rw [List.zip_map', List.map_map]
      conv => rhs; rw [← List.map_id (Idx.ofS s.L n)]
      rfl
    · have h1 : Idx.ofS s.L n = [] := by
        apply Decidable.byContradiction
        intro hc
        exact hn (((Idx.namesOf_spec s.L).2 n).2 hc)
      rw [h1]
      show Idx.ofS ((ptOf s).ss.flatMap onesOf) n = []
      rw [ofS_flat]
      refine flat_none (fun x hx e => hn ?_)
      obtain ⟨m, hm, rfl⟩ := List.mem_map.1 hx
      rw [← e]
      exact hm
  · constructor
    · rintro ⟨e, he, rfl⟩
      have h1 := (look_one (T := s.T) (x := e.ses) (y := e.seq) (by rw [(reqs_mem _).1 he])).1
      exact ⟨_, find_in h1, rfl⟩
    · intro hx
      obtain ⟨e, he, h1, h2⟩ := high_known h.okL hx
      obtain ⟨o, ho⟩ := find_some he
      have hs := h.okL.seq e he
      have hl : Ded.lookL s.T e.ses e.seq = (o, 1) := Ded.lookL_known (by rw [h1]; omega) ho
      exact ⟨⟨e.ses, e.seq, o⟩, (reqs_mem _).2 hl, h1⟩
end Go.Proofs.YthebmbhdlkldiaaGreatDoor
