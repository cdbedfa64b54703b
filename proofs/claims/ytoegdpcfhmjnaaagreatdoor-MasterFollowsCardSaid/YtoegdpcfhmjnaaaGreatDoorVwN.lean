/- Views as rows of nodes: which are right, with one node more, without one. Plain; no condition. -/
import Derived.Test.YtoegdpcfhmjnaaaGreatDoorBlA
namespace Go.Proofs.YtoegdpcfhmjnaaaGreatDoor
open Go.RowKit Go.Bl

/-- A node of a view: since which epoch, with which boot. -/
structure Nd where
  node : Int
  since : Int
  boot : Int
structure Vw where
  ep : Int
  L : List Nd
def Vw.nodes (v : Vw) : List Int := v.L.map Nd.node
def rowR (ep : Int) : List Int → Int → List Nd → Bool
  | _, _, [] => true
  | S, s, x :: l => decide (1 ≤ x.node) && decide (x.node ≤ 100) && !S.contains x.node && decide (s ≤ x.since) && decide (x.since ≤ ep) && decide (0 ≤ x.boot) && decide (x.boot ≤ 274877906944) && rowR ep (S ++ [x.node]) x.since l
def rightV (v : Vw) : Bool := decide (1 ≤ v.ep) && decide (v.ep ≤ 274877906944) && decide (1 ≤ v.L.length) && decide (v.L.length ≤ 6) && rowR v.ep [] 1 v.L
structure RightV (v : Vw) : Prop where
  ep1 : 1 ≤ v.ep
  ep2 : v.ep ≤ 274877906944
  n1 : 1 ≤ v.L.length
  n2 : v.L.length ≤ 6
  nodup : v.nodes.Nodup
  bd : ∀ x ∈ v.L, 1 ≤ x.node ∧ x.node ≤ 100 ∧ 1 ≤ x.since ∧ x.since ≤ v.ep ∧ 0 ≤ x.boot ∧ x.boot ≤ 274877906944
  up : v.L.Pairwise fun x y => x.since ≤ y.since
theorem rowR_iff {ep : Int} : ∀ {l : List Nd} {S : List Int} {s : Int}, rowR ep S s l = true ↔ (∀ x ∈ l, 1 ≤ x.node ∧ x.node ≤ 100 ∧ s ≤ x.since ∧ x.since ≤ ep ∧ 0 ≤ x.boot ∧ x.boot ≤ 274877906944 ∧ x.node ∉ S) ∧ (l.map Nd.node).Nodup ∧ l.Pairwise fun x y => x.since ≤ y.since
  | [], S, s => by simp [rowR]
  | x :: l, S, s => by
    rw [rowR, Bool.and_eq_true, rowR_iff (l := l)]
    simp only [Bool.and_eq_true, decide_eq_true_eq, Bool.not_eq_true', List.mem_append, List.mem_singleton, List.map_cons, List.nodup_cons, List.pairwise_cons, List.forall_mem_cons, List.contains_eq_mem, decide_eq_false_iff_not, List.mem_map, not_or, not_exists, not_and]
    constructor
    · rintro ⟨⟨⟨⟨⟨⟨⟨a1, a2⟩, a3⟩, a4⟩, a5⟩, a6⟩, a7⟩, b1, b2, b3⟩
      exact ⟨⟨⟨a1, a2, a4, a5, a6, a7, a3⟩, fun y hy => by have := b1 y hy; exact ⟨this.1, this.2.1, by have := this.2.2.1; omega, this.2.2.2.1, this.2.2.2.2.1, this.2.2.2.2.2.1, this.2.2.2.2.2.2.1⟩⟩, ⟨fun y hy e => (b1 y hy).2.2.2.2.2.2.2 e, b2⟩, fun y hy => (b1 y hy).2.2.1, b3⟩
    · rintro ⟨⟨⟨a1, a2, a4, a5, a6, a7, a3⟩, b1⟩, ⟨c1, c2⟩, d1, d2⟩
      exact ⟨⟨⟨⟨⟨⟨⟨a1, a2⟩, a3⟩, a4⟩, a5⟩, a6⟩, a7⟩, fun y hy => by have := b1 y hy; exact ⟨this.1, this.2.1, d1 y hy, this.2.2.2.1, this.2.2.2.2.1, this.2.2.2.2.2.1, this.2.2.2.2.2.2, c1 y hy⟩, c2, d2⟩
theorem rightV_iff {v : Vw} : rightV v = true ↔ RightV v := by
  unfold rightV
  rw [Bool.and_eq_true, rowR_iff]
  simp only [Bool.and_eq_true, decide_eq_true_eq]
  constructor
  · rintro ⟨⟨⟨⟨a1, a2⟩, a3⟩, a4⟩, b1, b2, b3⟩
    exact ⟨a1, a2, a3, a4, b2, fun x hx => by have := b1 x hx; exact ⟨this.1, this.2.1, this.2.2.1, this.2.2.2.1, this.2.2.2.2.1, this.2.2.2.2.2.1⟩, b3⟩
  · intro h
    exact ⟨⟨⟨⟨h.ep1, h.ep2⟩, h.n1⟩, h.n2⟩, fun x hx => by have := h.bd x hx; exact ⟨this.1, this.2.1, this.2.2.1, this.2.2.2.1, this.2.2.2.2.1, this.2.2.2.2.2, by simp⟩, h.nodup, h.up⟩
def Vw.withN (v : Vw) (node boot : Int) : Vw := ⟨v.ep + 1, v.L ++ [⟨node, v.ep + 1, boot⟩]⟩
def Vw.cutN (v : Vw) (node : Int) : Vw := ⟨v.ep + 1, v.L.filter fun x => decide (x.node ≠ node)⟩
section
variable {v : Vw} {node boot : Int}
theorem RightV.withN (h : RightV v) (h1 : 1 ≤ node) (h2 : node ≤ 100) (h3 : 0 ≤ boot) (h4 : boot ≤ 274877906944) (hn : node ∉ v.nodes) (h6 : v.L.length ≠ 6) (he : v.ep ≠ 274877906944) : RightV (v.withN node boot) := by
  have e1 := h.ep1
  have e2 := h.ep2
  have n2 := h.n2
  refine ⟨by show (1 : Int) ≤ v.ep + 1; omega, by show v.ep + 1 ≤ _; omega, by show 1 ≤ (v.L ++ _).length; simp, by show (v.L ++ [_]).length ≤ 6; rw [List.length_append, List.length_singleton]; omega, ?_, ?_, ?_⟩
  · show ((v.L ++ [_]).map Nd.node).Nodup
    rw [List.map_append, List.nodup_append]
    exact ⟨h.nodup, by simp, fun a ha b hb e => hn (by simp only [List.map_cons, List.map_nil, List.mem_singleton] at hb; rw [← hb, ← e]; exact ha)⟩
  · intro x hx
    rcases List.mem_append.1 hx with hx | hx
    · have := h.bd x hx
      exact ⟨this.1, this.2.1, this.2.2.1, by show x.since ≤ v.ep + 1; have := this.2.2.2.1; omega, this.2.2.2.2⟩
    · obtain rfl := List.mem_singleton.1 hx
      exact ⟨h1, h2, by show (1 : Int) ≤ v.ep + 1; omega, Int.le_refl _, h3, h4⟩
  · show (v.L ++ [_]).Pairwise _
    rw [List.pairwise_append]
    exact ⟨h.up, List.pairwise_singleton _ _, fun a ha b hb => by obtain rfl := List.mem_singleton.1 hb; have := (h.bd a ha).2.2.2.1; show a.since ≤ v.ep + 1; omega⟩
theorem filter_ne_self {l : List Nd} (h : ∀ z ∈ l, z.node ≠ node) : (l.filter fun x => decide (x.node ≠ node)) = l := List.filter_eq_self.2 fun z hz => decide_eq_true (h z hz)
theorem filter_ne_len : ∀ {l : List Nd}, (l.map Nd.node).Nodup → node ∈ l.map Nd.node → (l.filter fun x => decide (x.node ≠ node)).length + 1 = l.length
  | [], _, h => by cases h
  | x :: l, hd, h => by
    rw [List.map_cons, List.nodup_cons] at hd
    by_cases e : x.node = node
    · rw [List.filter_cons_of_neg (by simp [e]), List.length_cons]
      rw [filter_ne_self fun y hy e2 => hd.1 (List.mem_map.2 ⟨y, hy, e2.trans e.symm⟩)]
    · rw [List.filter_cons_of_pos (by simp [e]), List.length_cons, List.length_cons]
      rw [filter_ne_len hd.2 (by rw [List.map_cons, List.mem_cons] at h; exact h.resolve_left fun q => e q.symm)]
theorem RightV.cutN (h : RightV v) (hn : node ∈ v.nodes) (h1 : v.L.length ≠ 1) (he : v.ep ≠ 274877906944) : RightV (v.cutN node) := by
  have e1 := h.ep1
  have e2 := h.ep2
  have n1 := h.n1
  have n2 := h.n2
  have hl := filter_ne_len h.nodup hn
  refine ⟨by show (1 : Int) ≤ v.ep + 1; omega, by show v.ep + 1 ≤ _; omega, by show 1 ≤ (v.L.filter _).length; omega, by show (v.L.filter _).length ≤ 6; omega, ?_, ?_, ?_⟩
  · exact h.nodup.sublist (List.filter_sublist.map Nd.node)
  · intro x hx
    have := h.bd x (List.mem_filter.1 hx).1
    exact ⟨this.1, this.2.1, this.2.2.1, by show x.since ≤ v.ep + 1; have := this.2.2.2.1; omega, this.2.2.2.2⟩
  · exact h.up.sublist List.filter_sublist
/-- The first node's place is where the row is cut. -/
theorem cut_at : ∀ {l : List Nd} {i : Nat} {x : Nd}, (l.map Nd.node).Nodup → l[i]? = some x → (l.filter fun y => decide (y.node ≠ x.node)) = l.take i ++ l.drop (i + 1)
  | [], i, x, _, h => by simp at h
  | y :: l, 0, x, hd, h => by
    obtain rfl : y = x := by simpa using h
    rw [List.map_cons, List.nodup_cons] at hd
    rw [List.filter_cons_of_neg (by simp), filter_ne_self fun z hz e2 => hd.1 (List.mem_map.2 ⟨z, hz, e2⟩)]
    simp
  | y :: l, i + 1, x, hd, h => by
    rw [List.map_cons, List.nodup_cons] at hd
    rw [List.getElem?_cons_succ] at h
    have hx : x ∈ l := List.mem_of_getElem? h
    rw [List.filter_cons_of_pos (by simp only [decide_eq_true_eq]; exact fun e => hd.1 (List.mem_map.2 ⟨x, hx, e.symm⟩)), cut_at hd.2 h]
    simp
end
end Go.Proofs.YtoegdpcfhmjnaaaGreatDoor
