/- A map's keys in rising order: strings. Proved for every program; no condition. -/
import Derived.Test.YthdcnknjjbdefaaGreatDoorBlA
import Derived.Sort.KeysCollected
import Derived.Sort.Walk0
namespace Go.Bl
open Go.RowKit Go.Maps

def strc (s : ByteArray) : List Value := [.string s]
def bsOf (l : List UInt8) : ByteArray := ⟨l.toArray⟩
/-- One text stands ahead of another one. -/
def bLt (a b : ByteArray) : Prop := Op.bytesLess a.toList b.toList = true
/-- Texts that rise. -/
def Rising (ks : List ByteArray) : Prop := ks.Pairwise bLt
theorem bLt_iff (a b : ByteArray) : bLt a b ↔ a.toList < b.toList := by unfold bLt; rw [Go.Proofs.bytesLess_eq]; simp
theorem bsOf_toList (l : List UInt8) : (bsOf l).toList = l := by rw [ByteArray.toList_eq]; rfl
theorem bsOf_data (s : ByteArray) : bsOf s.data.toList = s := by obtain ⟨⟨l⟩⟩ := s; rfl

section
variable {H : Type} {P : Program} {k : TypeId} {R : Value → Option (DataW H × List MemPlace)} {w : World} {b n : Nat} {D : DataW H}
theorem strKeys_spec (hown : w.ownsMap P k R b n D) (K : Keyed P k) (hk : P.underlying k = some .string) : (strKeys D).Nodup ∧ ∀ x, x ∈ strKeys D ↔ has D (.string x) = true := by
  obtain ⟨es, hD, hpw, _⟩ := hown.entries K
  obtain ⟨es', hD', hko⟩ := hown.keysOf
  obtain rfl : es = es' := by rw [hD] at hD'; simpa using hD'
  subst hD
  have hstr : ∀ p ∈ es, ∃ x, p.1 = .string x := fun p hp => by obtain ⟨v, hv⟩ := hko p hp; obtain ⟨x, _, hx, _⟩ := Maps.keyOf_str hk hv; exact ⟨x, hx⟩
  refine ⟨?_, fun x => ?_⟩
  · show (es.map fun p => strOf p.1).Nodup
    refine List.pairwise_map.2 (hpw.imp_of_mem fun {p q} hp' hq' hne e => hne ?_)
    obtain ⟨a, ha⟩ := hstr p hp'
    obtain ⟨b, hb⟩ := hstr q hq'
    rw [ha, hb] at e ⊢
    exact congrArg _ e
  · rw [has_eq, List.any_eq_true]
    show x ∈ es.map (fun p => strOf p.1) ↔ _
    rw [List.mem_map]
    constructor
    · rintro ⟨p, hp, rfl⟩
      obtain ⟨a, ha⟩ := hstr p hp
      exact ⟨p, hp, by simp [ha, strOf, Lit.sameKey]⟩
    · rintro ⟨p, hp, h⟩
      obtain ⟨a, ha⟩ := hstr p hp
      refine ⟨p, hp, ?_⟩
      simpa [ha, strOf, Lit.sameKey] using h

/-- What a sort hands back of a map's keys rises, and holds just the keys. -/
theorem keys_sorted (K : Keyed P k) (hk : P.underlying k = some .string) (hown : w.ownsMap P k R b n D) {ss : List (List UInt8)} (hp : ss.Perm (strKeys D)) :
    Rising ((ss.mergeSort leB).map bsOf) ∧ ∀ s : ByteArray, s ∈ (ss.mergeSort leB).map bsOf ↔ has D (.string s.data.toList) = true := by
  obtain ⟨h1, h2⟩ := strKeys_spec hown K hk
  have tr : ∀ a b c : List UInt8, leB a b = true → leB b c = true → leB a c = true := fun a b c h1 h2 => by simp only [leB, decide_eq_true_eq] at *; exact List.le_trans h1 h2
  have to : ∀ a b : List UInt8, (leB a b || leB b a) = true := fun a b => by simp only [leB, Bool.or_eq_true, decide_eq_true_eq]; exact List.le_total a b
  have hpm := (List.mergeSort_perm ss leB).trans hp
  have hnd : (ss.mergeSort leB).Nodup := hpm.nodup_iff.2 h1
  have hpw := List.pairwise_mergeSort tr to ss
  refine ⟨List.pairwise_map.2 ((hpw.and hnd).imp fun {x y} h => ?_), fun s => ?_⟩
  · rw [bLt_iff, bsOf_toList, bsOf_toList]
    obtain ⟨q1, q2⟩ := h
    simp only [leB, decide_eq_true_eq] at q1
    rcases List.le_iff_lt_or_eq.1 q1 with h | h
    · exact h
    · exact absurd h q2
  · rw [List.mem_map, ← h2]
    constructor
    · rintro ⟨l, hl, rfl⟩
      exact hpm.mem_iff.1 (by simpa [bsOf] using hl)
    · intro hs
      exact ⟨_, hpm.mem_iff.2 hs, bsOf_data s⟩
end
end Go.Bl
