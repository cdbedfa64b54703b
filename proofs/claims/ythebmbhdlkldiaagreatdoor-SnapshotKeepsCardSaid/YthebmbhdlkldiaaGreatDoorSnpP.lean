/- The bytes of a state's parts, in plain words. No condition. -/
import Derived.Test.YthebmbhdlkldiaaGreatDoorParP
import Derived.Test.YthebmbhdlkldiaaGreatDoorCodP
import Derived.Test.YthebmbhdlkldiaaGreatDoorCrcP
namespace Go.Proofs.YthebmbhdlkldiaaGreatDoor
open Go.RowKit Go.Bl

def oneL (q : Int × Ev) : List UInt8 := numL q.1.toNat ++ evbL q.2
def strmL (x : Sp) : List UInt8 := txtL (Lb x.name) ++ (numL x.evs.length ++ (x.pos.zip x.evs).flatMap oneL)
def numsL (l : List Int) : List UInt8 := l.flatMap fun n => numL n.toNat
def reqN (r : Ded.En) : List Int := [r.ses, r.seq, r.o.code, r.o.pos, r.o.first, r.o.ver]
def rqsL (r : Ded.En) : List UInt8 := numsL (reqN r)
def snpL (p : Pt) : List UInt8 := numL p.ap.toNat ++ (numL p.ss.length ++ (p.ss.flatMap strmL ++ (numL p.rs.length ++ p.rs.flatMap rqsL)))
def snpB (p : Pt) : List UInt8 := fixL (crcU 0 (snpL p)) ++ snpL p
theorem snpB_len (p : Pt) : (snpB p).length = 4 + (snpL p).length := by unfold snpB; rw [List.length_append, fixL_len]
theorem snp_ap {p q : Pt} (hp : 0 ≤ p.ap ∧ p.ap ≤ 274877906944) (hq : 0 ≤ q.ap ∧ q.ap ≤ 274877906944) (h : snpB p = snpB q) : p.ap = q.ap := by
  have h1 : snpL p = snpL q := by
    have := congrArg (List.drop 4) h
    unfold snpB at this
    rw [← fixL_len (crcU 0 (snpL p)), List.drop_left, fixL_len, ← fixL_len (crcU 0 (snpL q)), List.drop_left] at this
    exact this
  have h2 := congrArg tkN h1
  unfold snpL at h2
  rw [tkN_num (by omega), tkN_num (by omega)] at h2
  have := (Prod.mk.inj h2).1
  omega
/-- What holds of right parts that came of few entries. -/
structure PtSm (p : Pt) : Prop where
  ok : PtOk p
  ss : p.ss.length ≤ 1000
  ev : ∀ x ∈ p.ss, x.evs.length ≤ 1000
  rs : p.rs.length ≤ 1000
  len : (snpL p).length ≤ 500000
theorem posB_at {ap : Int} : ∀ {l : List Int} {es : List Ev} {last : Int}, 1 ≤ last → posB ap last l es = true → l.length ≤ es.length → ∀ q ∈ l.zip es, 1 ≤ q.1 ∧ q.1 ≤ ap ∧ rightE q.2 = true
  | [], _, _, _, _, _ => by intro q hq; simp at hq
  | p :: l, [], _, _, h, _ => by simp [posB] at h
  | p :: l, e :: es, last, hl, h, hle => by
    simp only [posB, Bool.and_eq_true, decide_eq_true_eq] at h
    obtain ⟨h1, h2, h3, h4⟩ := h
    intro q hq
    rw [List.zip_cons_cons] at hq
    rcases List.mem_cons.1 hq with e' | e'
    · subst e'; exact ⟨by show 1 ≤ p; omega, h2, h3⟩
    · exact posB_at (by omega) h4 (by simpa using hle) q e'
theorem PtOk.sp {p : Pt} (h : PtOk p) {x : Sp} (hx : x ∈ p.ss) : x.name.size ≤ 128 ∧ x.evs.length = x.pos.length ∧ ∀ q ∈ x.pos.zip x.evs, 1 ≤ q.1 ∧ q.1 ≤ 274877906944 ∧ rightE q.2 = true := by
  have h0 := ok_mem h hx
  have hl := spOk_len h0
  simp only [spOk, Bool.and_eq_true] at h0
  refine ⟨name_size h0.2.1, hl.2, fun q hq => ?_⟩
  have h1 := posB_at (by omega) h0.1 (by omega) q hq
  have h2 := h.ap
  exact ⟨h1.1, by omega, h1.2.2⟩
theorem PtOk.evs {p : Pt} (h : PtOk p) {x : Sp} (hx : x ∈ p.ss) : ∀ e ∈ x.evs, rightE e = true := by
  intro e he
  obtain ⟨h1, h2, h3⟩ := h.sp hx
  rw [← zip_snd (a := x.pos) (b := x.evs) h2.symm] at he
  obtain ⟨q, hq, rfl⟩ := List.mem_map.1 he
  exact (h3 q hq).2.2
theorem PtOk.rq {p : Pt} (h : PtOk p) {r : Ded.En} (hr : r ∈ p.rs) : ∀ n ∈ reqN r, 0 ≤ n ∧ n ≤ 274877906944 := by
  obtain ⟨i, hi, rfl⟩ := List.mem_iff_getElem.1 hr
  have := rqOk_iff.1 (h.rs i hi)
  have := h.ap
  intro n hn
  simp only [reqN, List.mem_cons, List.not_mem_nil, or_false] at hn
  rcases hn with rfl | rfl | rfl | rfl | rfl | rfl <;> omega
theorem oneL_len {q : Int × Ev} (h : 1 ≤ q.1 ∧ q.1 ≤ 274877906944 ∧ rightE q.2 = true) : (oneL q).length ≤ 346 := by
  have h1 := numL_len (n := q.1.toNat) (by omega)
  have h2 := evbL_len h.2.2
  unfold oneL
  rw [List.length_append]
  omega
theorem strmL_len {p : Pt} (h : PtOk p) {x : Sp} (hx : x ∈ p.ss) (hn : x.evs.length ≤ 100000) : (strmL x).length ≤ 140 + x.evs.length * 346 := by
  obtain ⟨h1, h2, h3⟩ := h.sp hx
  have e1 := txtL_len (l := Lb x.name) (by rw [Lb_len]; omega)
  rw [Lb_len] at e1
  have e2 := numL_len (n := x.evs.length) (by omega)
  have e3 := flat_len oneL 346 (x.pos.zip x.evs) (fun q hq => oneL_len (h3 q hq))
  have e4 : (x.pos.zip x.evs).length = x.evs.length := by rw [List.length_zip]; omega
  rw [e4] at e3
  unfold strmL
  simp only [List.length_append]
  omega
theorem numsL_len {l : List Int} (h : ∀ n ∈ l, 0 ≤ n ∧ n ≤ 274877906944) : (numsL l).length ≤ l.length * 6 :=
  flat_len _ 6 l (fun n hn => numL_len (by have := h n hn; omega))
theorem rqsL_len {p : Pt} (h : PtOk p) {r : Ded.En} (hr : r ∈ p.rs) : (rqsL r).length ≤ 36 := numsL_len (h.rq hr)
theorem strms_len {p : Pt} (h : PtOk p) : ∀ ss : List Sp, (∀ x ∈ ss, x ∈ p.ss ∧ x.evs.length ≤ 100000) → (ss.flatMap strmL).length ≤ ss.length * 140 + (ss.map fun x => x.evs.length).sum * 346
  | [], _ => by simp
  | x :: ss, hs => by
    have h1 := strmL_len h (hs x (by simp)).1 (hs x (by simp)).2
    have h2 := strms_len h ss (fun y hy => hs y (List.mem_cons_of_mem _ hy))
    simp only [List.flatMap_cons, List.length_append, List.length_cons, List.map_cons, List.sum_cons, Nat.add_mul]
    omega
/-- The parts of a state that few entries made. -/
theorem Rch.small {s : St} (h : Rch s) (hL : s.L.length ≤ 400) (hT : s.T.length ≤ 100) : PtSm (ptOf s) := by
  have hp := h.parts
  have hN := Idx.namesOf_spec s.L
  have hn := Idx.streams_len hN
  have hsum := Idx.streams_sum hN
  have hr := reqs_len s.T
  have hev : ∀ n, (spOf s.L n).evs.length ≤ 400 := fun n => by
    have := Idx.ofS_le s.L n
    simp only [spOf, List.length_map]
    omega
  have e1 : (ptOf s).ss.length ≤ 400 := by show ((Idx.namesOf s.L).map (spOf s.L)).length ≤ _; rw [List.length_map]; omega
  have e2 : ∀ x ∈ (ptOf s).ss, x.evs.length ≤ 400 := fun x hx => by
    obtain ⟨n, _, rfl⟩ := List.mem_map.1 hx
    exact hev n
  have e3 : (ptOf s).rs.length ≤ 100 := by show (reqsOf s.T).length ≤ _; omega
  refine ⟨hp, by omega, fun x hx => by have := e2 x hx; omega, by omega, ?_⟩
  have q1 := strms_len hp (ptOf s).ss (fun x hx => ⟨hx, by have := e2 x hx; omega⟩)
  have q2 : ((ptOf s).ss.map fun x => x.evs.length).sum = s.L.length := by
    rw [← hsum]
    unfold Idx.sumS
    show (((Idx.namesOf s.L).map (spOf s.L)).map fun x => x.evs.length).sum = _
    rw [List.map_map]
    congr 2
    funext n
    simp [spOf]
  have q3 := flat_len rqsL 36 (ptOf s).rs (fun r hr => rqsL_len hp hr)
  have q4 := numL_len (n := (ptOf s).ap.toNat) (by have := hp.ap; omega)
  have q5 := numL_len (n := (ptOf s).ss.length) (by omega)
  have q6 := numL_len (n := (ptOf s).rs.length) (by omega)
  rw [q2] at q1
  have q7 : (ptOf s).rs.length * 36 ≤ 100 * 36 := Nat.mul_le_mul_right _ e3
  have q8 : (ptOf s).ss.length * 140 ≤ 400 * 140 := Nat.mul_le_mul_right _ e1
  have q9 : s.L.length * 346 ≤ 400 * 346 := Nat.mul_le_mul_right _ hL
  unfold snpL
  simp only [List.length_append]
  omega
end Go.Proofs.YthebmbhdlkldiaaGreatDoor
