/- A map's keys in rising order: integers. Proved for every program; no condition. -/
import Derived.Test.YthdcnknjjbdefaaGreatDoorBlA
import Derived.Lib.SlKeysI
namespace Go.Bl
open Go.RowKit Go.Maps

def intc (n : Int) : List Value := [.int .i64 n]
theorem map_intc : ∀ ks : List Int, ks.map encZ = ks.flatMap intc
  | [] => rfl
  | k :: ks => by rw [List.map_cons, List.flatMap_cons, map_intc ks]; rfl
theorem row_shape {w : World} {base : Nat} {e : TypeId} {k : Nat} {v : Value} {n : Nat} {xs : List Value} (h : w.ownsRow base e k v n xs) : ∃ a c, v = .slice a n c ∧ n ≤ c ∧ c ≤ maxLen := by
  rcases h.2 with ⟨rfl, rfl⟩ | ⟨g, cap, cur, rfl, _, _, h1, h2, _⟩
  · exact ⟨_, _, rfl, Nat.le_refl _, by unfold maxLen; omega⟩
  · exact ⟨_, _, rfl, h1, h2⟩
section
variable {H : Type} {P : Program} {k : TypeId} {R : Value → Option (DataW H × List MemPlace)} {w : World} {b n : Nat} {D : DataW H}
/-- What a sort hands back of a map's keys is the rising list of just these. -/
theorem sorted_keysI (K : Keyed P k) (hk : P.underlying k = some (.int .i64)) (hown : w.ownsMap P k R b n D) {ss ks : List Int} (hp : ss.Perm (intKeys D)) (hr : ks.Pairwise (· < ·)) (hm : ∀ x, x ∈ ks ↔ has D (.int .i64 x) = true) :
    ss.mergeSort (fun x y => decide (x ≤ y)) = ks := by
  obtain ⟨es, hD, hpw, _⟩ := hown.entries K
  obtain ⟨es', hD', hko⟩ := hown.keysOf
  obtain rfl : es = es' := by rw [hD] at hD'; simpa using hD'
  subst hD
  have hnd : ks.Nodup := hr.imp fun {a b} h e => by omega
  have h2 : ks.Perm (intKeys (.map es)) := perm_intKeys hpw (fun p hp => by obtain ⟨v, hv⟩ := hko p hp; obtain ⟨x, _, hx, _⟩ := Maps.keyOf_i64 hk hv; exact ⟨x, hx⟩) hnd hm
  have h3 : ss.mergeSort leI = ks.mergeSort leI := mergeSort_of_perm_i (hp.trans h2.symm)
  show ss.mergeSort leI = ks
  rw [h3]
  exact List.mergeSort_of_pairwise (hr.imp fun {a b} h => by simp only [leI, decide_eq_true_eq]; omega)
/-- .. and in any case it rises. -/
theorem sorted_keysI_rise (K : Keyed P k) (hk : P.underlying k = some (.int .i64)) (hown : w.ownsMap P k R b n D) {ss : List Int} (hp : ss.Perm (intKeys D)) :
    (ss.mergeSort (fun x y => decide (x ≤ y))).Pairwise (· < ·) ∧ ∀ x, x ∈ ss.mergeSort (fun x y => decide (x ≤ y)) ↔ has D (.int .i64 x) = true := by
  obtain ⟨es, hD, hpw, _⟩ := hown.entries K
  obtain ⟨es', hD', hko⟩ := hown.keysOf
  obtain rfl : es = es' := by rw [hD] at hD'; simpa using hD'
  subst hD
  have hstr : ∀ p ∈ es, ∃ x, p.1 = .int .i64 x := fun p hp => by obtain ⟨v, hv⟩ := hko p hp; obtain ⟨x, _, hx, _⟩ := Maps.keyOf_i64 hk hv; exact ⟨x, hx⟩
  have h1 : (intKeys (.map es)).Nodup := by
    show (es.map fun p => Go.intOf p.1).Nodup
    refine List.pairwise_map.2 (hpw.imp_of_mem fun {p q} hp' hq' hne e => hne ?_)
    obtain ⟨a, ha⟩ := hstr p hp'
    obtain ⟨b, hb⟩ := hstr q hq'
    rw [ha, hb] at e ⊢
    exact congrArg _ e
  have hm2 : ∀ x, x ∈ intKeys (.map es) ↔ has (.map es : DataW H) (.int .i64 x) = true := by
    intro x
    rw [has_eq, List.any_eq_true]
    show x ∈ es.map (fun p => Go.intOf p.1) ↔ _
    rw [List.mem_map]
    constructor
    · rintro ⟨p, hp, rfl⟩
      obtain ⟨a, ha⟩ := hstr p hp
      exact ⟨p, hp, by simp [ha, Go.intOf, Lit.sameKey]⟩
    · rintro ⟨p, hp, h⟩
      obtain ⟨a, ha⟩ := hstr p hp
      refine ⟨p, hp, ?_⟩
      simpa [ha, Go.intOf, Lit.sameKey] using h
  have tr : ∀ a b c : Int, leI a b = true → leI b c = true → leI a c = true := fun a b c h1 h2 => by simp only [leI, decide_eq_true_eq] at *; exact Int.le_trans h1 h2
  have to : ∀ a b : Int, (leI a b || leI b a) = true := fun a b => by simp only [leI, Bool.or_eq_true, decide_eq_true_eq]; exact Int.le_total a b
  have hpm := (List.mergeSort_perm ss leI).trans hp
  have hnd : (ss.mergeSort leI).Nodup := hpm.nodup_iff.2 h1
  have hpw2 := List.pairwise_mergeSort tr to ss
  refine ⟨(hpw2.and hnd).imp fun {x y} h => ?_, fun x => by rw [← hm2]; exact hpm.mem_iff⟩
  obtain ⟨q1, q2⟩ := h
  simp only [leI, decide_eq_true_eq] at q1
  omega
end
end Go.Bl
