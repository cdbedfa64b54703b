/- The disk: Clone: a copy that shares nothing. -/
import Derived.Test.YtoegdpcfhmjnaaaDoorDskE
import Derived.Test.YtoegdpcfhmjnaaaDoorBlM
namespace Go.Proofs.YtoegdpcfhmjnaaaDoor
open Go.RowKit Go.Bl
attribute [local go_sem ↓] Go.wp_at_zero Go.wp_at_succ

theorem total_perm {L M : List Fl} (h : L.Perm M) : total L = total M := (h.map fun f : Fl => f.bytes.size).sum_nat
theorem Dk.Ok.perm {d : Dk} (h : d.Ok) {L : List Fl} (hp : L.Perm d.L) : (⟨d.room, L⟩ : Dk).Ok :=
  ⟨h.room1, h.room2, by show (total L : Int) ≤ _; rw [total_perm hp]; exact h.used, by show L.length ≤ 40; rw [hp.length_eq]; exact h.len, fun f hf => h.syn f (hp.mem_iff.1 hf), fun f hf => h.nms f (hp.mem_iff.1 hf)⟩
theorem keyStr {key : Value} {kl : Lit} (h : keyOf Tryd.prog 9 key = some kl) : ∃ x : ByteArray, key = .string x ∧ kl = strLit x := by
  have hk : Tryd.prog.underlying 9 = some .string := Tryd.underlying9
  cases key <;> simp [keyOf, hk, mapKey] at h
  exact ⟨_, rfl, h.2.symm⟩

theorem perm_out {q : Nat × Fl} : ∀ {S : List (Nat × Fl)}, (S.map fun r => r.2.name).Nodup → q ∈ S → S.Perm (q :: S.filter fun s => decide (s.2.name ≠ q.2.name))
  | [], _, hm => by cases hm
  | r :: S, hn, hm => by
    rw [List.map_cons, List.nodup_cons] at hn
    rcases List.mem_cons.1 hm with e | hm
    · subst e
      rw [List.filter_cons_of_neg (by simp), List.filter_eq_self.2 (fun s hs => by simpa using fun e => hn.1 (List.mem_map.2 ⟨s, hs, e⟩))]
    · have hne : r.2.name ≠ q.2.name := fun e => hn.1 (List.mem_map.2 ⟨_, hm, e.symm⟩)
      rw [List.filter_cons_of_pos (by simpa using hne)]
      exact ((perm_out hn.2 hm).cons r).trans (List.Perm.swap _ _ _)

/-- What has been copied of a disk: R' of its files; S are still to come. -/
structure CopyD (w wr : World) (d : Dk) (bm : Nat) (R S R' : List (Nat × Fl)) : Prop where
  rng : RangeL wr Tryd.prog 9 strLit bm (w.heap.size + 2) (rowsD R) (rowsD S)
  map : MapL wr Tryd.prog 9 strLit w.heap.size (rowsD R')
  cb : wr.heap[w.heap.size + 1]? = some (.cells #[.int .i64 d.room, .int .i64 d.used, .map (some w.heap.size)] 81 (0, 0))
  sub : ∀ r ∈ S, r ∈ R
  rows : ∀ r ∈ R', wr.heap[r.1]? = some (.cells (flc r.2).toArray 91 (0, 0))
  fr : ∀ r ∈ R', w.heap.size + 2 < r.1 ∧ r.1 < wr.heap.size
  dist : (R'.map Prod.fst).Nodup
  new : ∀ r' ∈ R', ∀ r ∈ S, r.2.name ≠ r'.2.name
  perm : (R'.map Prod.snd ++ S.map Prod.snd).Perm (R.map Prod.snd)
  nds : (S.map fun r => r.2.name).Nodup
  blw : Below w.heap.size w wr

theorem copyD_end {w wr : World} {p : Nat} {d : Dk} {F : Nat → Prop} {bm : Nat} {R R' : List (Nat × Fl)} (h : DskIn w p d F bm R) (hc : CopyD w wr d bm R [] R') :
    ∃ L', L'.Perm d.L ∧ DskAt wr (w.heap.size + 1) ⟨d.room, L'⟩ (fun k => w.heap.size ≤ k ∧ k < wr.heap.size) := by
  have hl := hc.map.lt
  have hcb := (Array.getElem?_eq_some_iff.1 hc.cb).1
  have hp : (R'.map Prod.snd).Perm d.L := by
    have := hc.perm
    rw [List.map_nil, List.append_nil, h.rL] at this
    exact this
  have hu : (⟨d.room, R'.map Prod.snd⟩ : Dk).used = d.used := by
    show (total (R'.map Prod.snd) : Int) = (total d.L : Int)
    rw [total_perm hp]
  refine ⟨R'.map Prod.snd, hp, w.heap.size, R', ⟨by rw [hu]; exact hc.cb, rfl, hc.map, hc.rows, ?_, ⟨Nat.le_succ _, hcb⟩, ⟨Nat.le_refl _, hl⟩, fun r hr => ?_, fun k hk => hk.2⟩, h.ok.perm hp⟩
  · refine List.nodup_cons.2 ⟨fun hm => ?_, hc.dist⟩
    obtain ⟨r, hr, e⟩ := List.mem_map.1 hm
    have := (hc.fr r hr).1
    omega
  · have := hc.fr r hr
    omega
end Go.Proofs.YtoegdpcfhmjnaaaDoor
